/-
  The hasher's Write: the next piece.
-/
import Derived.Test.YtcmponmgaikkfaaDoorNew
import Derived.Test.YtcmponmgaikkfaaDoorHash
import Derived.Deep.DeepCutAuto
namespace Go.Proofs.YtcmponmgaikkfaaDoor
open Go.RowKit

/-- Block g is a hasher that has taken m. -/
def HashAt (w : World) (g : Nat) (m : List UInt8) : Prop :=
  ∃ rest : List UInt8, rest.length = 64 ∧ rest.take (m.length % 64) = m.drop (m.length / 64 * 64) ∧ Blk w g 86 (hcells (hs m (m.length / 64)) rest m.length) ∧ m.length < 4611686018427387904

/-- Block g is a hasher that has taken M, whole blocks alone. -/
def MidAt (w : World) (g : Nat) (M : List UInt8) : Prop :=
  64 ∣ M.length ∧ ∃ rest : List UInt8, rest.length = 64 ∧ Blk w g 86 (hcells (hs M (M.length / 64)) rest M.length)

theorem hcells_length (s : S8) (rest : List UInt8) (h : rest.length = 64) (n : Nat) : (hcells s rest n).length = 73 := by
  simp [hcells, sv, bvs, h]
theorem hcells_n (s : S8) (rest : List UInt8) (h : rest.length = 64) (n : Nat) : (hcells s rest n)[72]? = some (Value.int .u64 n) := by
  unfold hcells
  rw [List.getElem?_append_right (by simp [sv]), List.getElem?_append_right (by simp [sv, bvs, h])]
  simp [sv, bvs, h]
theorem hcells_set (s : S8) (rest : List UInt8) (h : rest.length = 64) (n k : Nat) : (hcells s rest n).set 72 (.int .u64 k) = hcells s rest k := by
  unfold hcells
  rw [List.set_append_right _ _ (by simp [sv]), List.set_append_right _ _ (by simp [sv, bvs, h])]
  simp [sv, bvs, h]
theorem hcells_rest (s : S8) (rest : List UInt8) (h : rest.length = 64) (n o : Nat) (xs : List UInt8) (hx : o + xs.length ≤ 64) :
    lay (hcells s rest n) (8 + o) (bvs xs) = hcells s (rest.take o ++ (xs ++ rest.drop (o + xs.length))) n := by
  have h8 : (sv s).length = 8 := by simp [sv]
  unfold hcells lay
  have e1 : (sv s ++ (bvs rest ++ [Value.int .u64 n])).take (8 + o) = sv s ++ bvs (rest.take o) := by
    rw [← h8, List.take_length_add_append, List.take_append_of_le_length (by simp [bvs, h]; omega)]
    simp [bvs]
  have e2 : (sv s ++ (bvs rest ++ [Value.int .u64 n])).drop (8 + o + (bvs xs).length) = bvs (rest.drop (o + xs.length)) ++ [.int .u64 n] := by
    rw [bvs_length, ← h8, Nat.add_assoc, List.drop_length_add_append, List.drop_append_of_le_length (by simp [bvs, h]; omega)]
    simp [bvs]
  rw [e1, e2]
  simp [bvs]

theorem hcells_byte {w : World} {g : Nat} {s : S8} {rest : List UInt8} {n : Nat} (h : Blk w g 86 (hcells s rest n)) (hr : rest.length = 64) (j : Nat) (hj : j < 64) :
    w.cell? ⟨g, 8 + j, none⟩ = some (.int .u8 ((rest.getD j 0).toNat : Int)) := by
  rw [h.cell]
  unfold hcells
  rw [List.getElem?_append_right (by simp [sv]), List.getElem?_append_left (by simp [sv, bvs, hr]; omega)]
  simp [sv, bvs, bv, hr, hj]

theorem drop_ne {l : List UInt8} {k : Nat} (h : l.drop k ≠ []) : l ≠ [] := by intro e; subst e; simp at h
theorem bvs_ne {l : List UInt8} (h : bvs l ≠ []) : l ≠ [] := by intro e; subst e; exact h rfl
theorem cut_ne {A : Option Addr} {l : List UInt8} {g k : Nat} (hA : l ≠ [] → ∀ ad, A = some ad → ad.block ≠ g) : l.drop k ≠ [] → ∀ ad, A.map (·.add k) = some ad → ad.block ≠ g := fun hne ad h => by
  obtain ⟨ad', h1, h2⟩ := Option.map_eq_some_iff.1 h
  rw [← h2, block_add]
  exact hA (drop_ne hne) _ h1

/-- What is known behind a fill that fills no block. -/
theorem fill_less {w : World} {g : Nat} {m l rest : List UInt8} (hrl : rest.length = 64) (hrt : rest.take (m.length % 64) = m.drop (m.length / 64 * 64)) (hlt : m.length % 64 + l.length < 64) (hlen : m.length + l.length < 4611686018427387904)
    (hB : Blk w g 86 (hcells (hs m (m.length / 64)) (rest.take (m.length % 64) ++ (l ++ rest.drop (m.length % 64 + l.length))) (m.length + l.length))) : HashAt w g (m ++ l) := by
  refine ⟨_, ?_, ?_, by rw [hs_more m l hlt, List.length_append]; exact hB, by rw [List.length_append]; exact hlen⟩
  · simp [hrl]; omega
  · have e1 : (m ++ l).length % 64 = m.length % 64 + l.length := by rw [List.length_append]; omega
    have e2 : (m ++ l).length / 64 = m.length / 64 := by rw [List.length_append]; omega
    rw [e1, e2, ← List.append_assoc, List.take_append_of_le_length (by simp [hrl]; omega), List.take_of_length_le (by simp [hrl]; omega), hrt, List.drop_append_of_le_length (by omega)]

set_option maxHeartbeats 4000000 in
set_option maxRecDepth 100000 in
theorem write_any (w : World) (g : Nat) (m l : List UInt8) (hH : HashAt w g m) (A : Option Addr) (cap : Nat) (hl : Rd w A (bvs l)) (hcap : l.length ≤ cap) (hcm : cap ≤ maxLen) (hA : l ≠ [] → ∀ ad, A = some ad → ad.block ≠ g)
    (hlen : m.length + l.length < 4611686018427387904) (htab : Tab w) (hg0 : g ≠ 0) :
    Calls Tryd.prog 36 #[.pointer (some ⟨g, 0, none⟩), .slice A l.length cap] w fun e w' =>
      e = .returned (.tuple #[]) ∧ HashAt w' g (m ++ l) ∧ w.grownBy w' (some g) := by
  obtain ⟨rest, hrl, hrt, hB, hm⟩ := hH
  have c72 : w.cell? ⟨g, 72, none⟩ = some (.int .u64 (m.length : Int)) := by rw [hB.cell, hcells_n _ _ hrl]
  obtain ⟨r, hr⟩ : ∃ r, r = m.length % 64 := ⟨_, rfl⟩
  have hr64 : r < 64 := by omega
  have hmod : (m.length : Int) % 64 = (r : Int) := by omega
  have Hrl := Lib.hid hrl
  have Hrt := Lib.hid hrt
  have Hr := Lib.hid hr
  clear hrl hrt hr
  go_enter Tryd.func36, Tryd.ntmps36
  go_upto_if 13 with fail
  go_cut [1] (fun v wc => ∃ A' c' M l', v = .slice A' (List.length l') c' ∧ l'.length ≤ c' ∧ c' ≤ maxLen ∧ Rd wc A' (bvs l') ∧ (l' ≠ [] → ∀ ad, A' = some ad → ad.block ≠ g) ∧ MidAt wc g M ∧ M ++ l' = m ++ l ∧ w.grownBy wc (some g))
  case first =>
    by_cases h0 : r = 0
    · go_wp2
      go_meet
      exact ⟨A, cap, m, l, rfl, hcap, hcm, hl, hA, ⟨by have := Hr.out; omega, rest, Hrl.out, hB⟩, rfl, grown_refl _ _⟩
    · have hpos : 0 < r := by omega
      have b0 : (0 : Int) ≤ (r : Int) := by omega
      have b1 : (r : Int) ≤ 64 := by omega
      have b2 : (0 : Int) < (r : Int) := by omega
      obtain ⟨x, hx⟩ : ∃ x, x = l.take (64 - r) := ⟨_, rfl⟩
      obtain ⟨k, hk⟩ : ∃ k, k = x.length := ⟨_, rfl⟩
      have hk1 : k ≤ 64 - r := by rw [hk, hx, List.length_take]; omega
      have hk2 : k ≤ l.length := by rw [hk, hx, List.length_take]; omega
      have hk3 : k = 64 - r ∨ k = l.length := by rw [hk, hx, List.length_take]; omega
      have hk4 : (bvs x).length = Nat.min l.length (64 - r) := by rw [bvs_length, hx, List.length_take]; exact Nat.min_comm _ _
      have hxr : Rd w A (bvs x) := by have := hl.take (64 - r); rw [hx]; unfold bvs at *; rwa [List.map_take]
      have Hx := Lib.hid hx
      have Hk := Lib.hid hk
      have hfit : 8 + r + (bvs x).length ≤ (hcells (hs m (m.length / 64)) rest m.length).length := by rw [hcells_length _ _ Hrl.out, bvs_length, ← hk]; omega
      have hlay := hcells_rest (hs m (m.length / 64)) rest Hrl.out m.length r x (by omega)
      have Hlay := Lib.hid hlay
      have Hk4 := Lib.hid hk4
      obtain ⟨rest1, hrest1⟩ : ∃ rest1, rest1 = rest.take r ++ (x ++ rest.drop (r + x.length)) := ⟨_, rfl⟩
      have hrl1 : rest1.length = 64 := by rw [hrest1]; simp [Hrl.out]; omega
      have Hrl1 := Lib.hid hrl1
      have Hrest1 := Lib.hid hrest1
      have hkx : ((bvs x).length : Int) = (k : Int) := by rw [bvs_length, Hk.out]
      have hk0 : (0 : Int) ≤ (k : Int) := by omega
      clear hx hk hlay hk4 hrl1 hrest1
      by_cases hfull : r + k < 64
      · go_wp2_with (first
          | ((with_reducible refine law_copy (.tmp 18) (.tmp 19) 27 27 5 Tryd.underlying27 ?_ g (8 + r) (64 - r) (64 - r) ?_ A l.length cap ?_ 86 _ hB (bvs x) Hk4.out hxr hfit (oneCell_bvs x) ?_); (kernel_rfl); (rfl); (rfl); intro w1 hB1 hg1 hs1; rw [Hlay.out, ← Hrest1.out] at hB1; have c72' : w1.cell? ⟨g, 72, none⟩ = some (.int .u64 (m.length : Int)) := (hB1.cell 72).trans (hcells_n _ _ Hrl1.out _); rw [hkx])
          | ((with_reducible refine law_storeCell (.tmp 29) (.tmp 27) 68 g 72 ?_ (.int .u64 ((m.length + k : Nat) : Int)) ?_ ?_ ?_ ?_ 86 _ hB1 ?_ ?_); (rfl); (exact congrArg (Value.int .u64) (Int.natCast_add _ _).symm); (rfl); (rfl); (kernel_rfl); (rw [hcells_length _ _ Hrl1.out]; decide); intro w2 hB2 hg2 hs2; rw [hcells_set _ _ Hrl1.out] at hB2))
        all_goals
          refine bodyPost_ret (results_none rfl _ _ _) rfl ⟨rfl, ?_, grown_trans hg1 hg2⟩
          have hxl : x = l := by rw [Hx.out, List.take_of_length_le (by omega)]
          have hkl : k = l.length := by omega
          rw [hxl] at Hrest1
          rw [Hrest1.out, hkl, Hr.out] at hB2
          exact fill_less Hrl.out Hrt.out (by rw [← Hr.out]; omega) hlen hB2
      · have hkf : k = 64 - r := by omega
        have Hkf := Lib.hid hkf
        have hf1 : ¬ (r : Int) + (k : Int) < 64 := by omega
        clear hkf hk3
        go_wp2_with (first
          | ((with_reducible refine law_copy (.tmp 18) (.tmp 19) 27 27 5 Tryd.underlying27 ?_ g (8 + r) (64 - r) (64 - r) ?_ A l.length cap ?_ 86 _ hB (bvs x) Hk4.out hxr hfit (oneCell_bvs x) ?_); (kernel_rfl); (rfl); (rfl); intro w1 hB1 hg1 hs1; rw [Hlay.out, ← Hrest1.out] at hB1; have c72' : w1.cell? ⟨g, 72, none⟩ = some (.int .u64 (m.length : Int)) := (hB1.cell 72).trans (hcells_n _ _ Hrl1.out _); rw [hkx])
          | ((with_reducible refine law_storeCell (.tmp 29) (.tmp 27) 68 g 72 ?_ (.int .u64 ((m.length + k : Nat) : Int)) ?_ ?_ ?_ ?_ 86 _ hB1 ?_ ?_); (rfl); (exact congrArg (Value.int .u64) (Int.natCast_add _ _).symm); (rfl); (rfl); (kernel_rfl); (rw [hcells_length _ _ Hrl1.out]; decide); intro w2 hB2 hg2 hs2; rw [hcells_set _ _ Hrl1.out] at hB2))
        all_goals
          have hp : ∀ j, j < 64 → w2.cell? ⟨g, 8 + j, none⟩ = some (.int .u8 ((rest1.getD j 0).toNat : Int)) := fun j hj => hcells_byte hB2 Hrl1.out j hj
          have Hp := Lib.hid hp
          have htab2 : Tab w2 := fun t ht => by rw [World.cell?_of_block (w := w1) (hg2.block _ (by have := block_lt_of_cell (htab t ht); rw [hs1]; exact this) (by simp; omega)), World.cell?_of_block (w := w) (hg1.block _ (block_lt_of_cell (htab t ht)) (by simp; omega))]; exact htab t ht
          clear hp
          go_region_held3 (fun _ => True) (trivial) ((go_at_call 43; refine (take_any w2.drew g 86 (hs m (m.length / 64)) _ hB2.drew (fun j => rest1.getD j 0) g 8 64 Hp.out (by decide) htab2).mono ?_; rintro e w3 ⟨rfl, hB3, hg3⟩))
          go_wp2
          go_meet
          clear hB hB1
          have hl2 : (l.drop k).length = l.length - k := List.length_drop
          have hM : MidAt w3 g (m ++ x) := by
            have hxk : x.length = k := Hk.out.symm
            have hx64 : m.length % 64 + x.length = 64 := by rw [hxk, Hkf.out, ← Hr.out]; omega
            refine ⟨by rw [List.length_append]; omega, rest1, Hrl1.out, ?_⟩
            have e : (rest1.take (m.length % 64) ++ x) = rest1 := by
              rw [Hrest1.out, ← Hr.out, List.take_append_of_le_length (by simp [Hrl.out]; omega), List.take_of_length_le (by simp; omega), List.drop_eq_nil_of_le (by rw [Hrl.out]; omega)]
              simp
            have e2 : rest1.take (m.length % 64) = m.drop (m.length / 64 * 64) := by
              rw [Hrest1.out, ← Hr.out, List.take_append_of_le_length (by simp [Hrl.out]; omega), List.take_of_length_le (by simp; omega), Hr.out, Hrt.out]
            rw [hs_fill m x rest1 e2 hx64, e, List.length_append, hxk]
            exact hB3
          have hMl : m ++ x ++ l.drop k = m ++ l := by rw [Hx.out, Hkf.out, List.append_assoc, List.take_append_drop]
          have hgw : w.grownBy w3 (some g) := grown_trans hg1 (grown_trans hg2 (grown_trans (grown_drew (grown_refl _ _)) hg3))
          have hrd : ∀ A', Rd w A' (bvs (l.drop k)) → (l.drop k ≠ [] → ∀ ad, A' = some ad → ad.block ≠ g) → Rd w3 A' (bvs (l.drop k)) := fun A' h h' => h.grown hgw (fun hne b o hA' => by have := h' (bvs_ne hne) _ hA'; simpa using this)
          first
            | exact ⟨A, 0, m ++ x, l.drop k, by rw [hl2], by rw [hl2]; omega, Nat.zero_le _, by rw [List.drop_eq_nil_of_le (by omega)]; exact Rd.nil _ _, fun hne => hA (drop_ne hne), hM, hMl, hgw⟩
            | exact ⟨A.map (·.add k), cap - k, m ++ x, l.drop k, by rw [hl2], by rw [hl2]; omega, Nat.le_trans (Nat.sub_le _ _) hcm, hrd _ (by have := hl.cut k; unfold bvs at *; rwa [← List.map_drop] at this) (cut_ne hA), cut_ne hA, hM, hMl, hgw⟩
  case rest =>
    clear hl hcap hA hB c72 hmod hcm Hrl Hrt Hr
    obtain ⟨A', c', M, l', rfl, hc', hcm', hl', hA', hM, hMl, hg⟩ := hcut
    have hlM : M.length + l'.length = m.length + l.length := by rw [← List.length_append, hMl, List.length_append]
    have HlM := Lib.hid hlM
    have hm1 : M.length + l'.length < 4611686018427387904 := by omega
    clear hlM
    go_wp2_with fail
    go_loopw [1] (fun v wr => ∃ A' c' M l', v = .slice A' (List.length l') c' ∧ l'.length ≤ c' ∧ c' ≤ maxLen ∧ Rd wr A' (bvs l') ∧ (l' ≠ [] → ∀ ad, A' = some ad → ad.block ≠ g) ∧ MidAt wr g M ∧ M ++ l' = m ++ l ∧ w.grownBy wr (some g)) (fun v _ => match v with | .slice _ n _ => n | _ => 0)
    case atStart => exact ⟨A', c', M, l', rfl, hc', hcm', hl', hA', hM, hMl, hg⟩
    case round =>
      clear hc' hl' hA' hM hMl hg HlM hm1
      obtain ⟨A', c', M, l', rfl, hc', hcm', hl', hA', ⟨hdM, rest2, hrl2, hB⟩, hMl, hg⟩ := hrel
      have hlM : M.length + l'.length = m.length + l.length := by rw [← List.length_append, hMl, List.length_append]
      have hm1 : M.length + l'.length < 4611686018427387904 := by omega
      have c72 : wr.cell? ⟨g, 72, none⟩ = some (.int .u64 (M.length : Int)) := by rw [hB.cell, hcells_n _ _ hrl2]
      have Hrl2 := Lib.hid hrl2
      have HMl := Lib.hid hMl
      have HdM := Lib.hid hdM
      clear hrl2 hMl hlM hdM
      by_cases h64 : 64 ≤ l'.length
      · obtain ⟨pb, po, rfl, hcell⟩ := hl' (by intro e; have := congrArg List.length e; rw [bvs_length] at this; simp at this; subst this; simp at h64)
        have hpg : pb ≠ g := hA' (by intro e; subst e; simp at h64) _ rfl
        have hp : ∀ j, j < 64 → wr.cell? ⟨pb, po + j, none⟩ = some (.int .u8 ((l'.getD j 0).toNat : Int)) := fun j hj => hl'.byte j (by omega)
        have Hp := Lib.hid hp
        have htab2 : Tab wr := fun t ht => by rw [World.cell?_of_block (w := w) (hg.block _ (block_lt_of_cell (htab t ht)) (by simp; omega))]; exact htab t ht
        have b64 : (64 : Int) ≤ (c' : Int) := by omega
        clear hp hcell
        go_wp2
        go_region_held3 (fun _ => True) (trivial) ((go_at_call 43; refine (take_any wr.drew g 86 (hs M (M.length / 64)) _ hB.drew (fun j => l'.getD j 0) pb po c' Hp.out (by omega) htab2).mono ?_; rintro e w3 ⟨rfl, hB3, hg3⟩))
        have hB3' : Blk w3 g 86 (hcells ((hs M (M.length / 64)).take (fun j => l'.getD j 0)) rest2 M.length) := hB3
        have c72' : w3.cell? ⟨g, 72, none⟩ = some (.int .u64 (M.length : Int)) := by rw [hB3'.cell, hcells_n _ _ Hrl2.out]
        clear hB hB3 c72
        go_wp2_with (first
          | ((with_reducible refine law_storeCell (.tmp 62) (.tmp 60) 68 g 72 ?_ (.int .u64 ((M.length + 64 : Nat) : Int)) ?_ ?_ ?_ ?_ 86 _ hB3' ?_ ?_); (rfl); (exact congrArg (Value.int .u64) (Int.natCast_add _ _).symm); (rfl); (rfl); (kernel_rfl); (rw [hcells_length _ _ Hrl2.out]; decide); intro w4 hB4 hg4 hs4; rw [hcells_set _ _ Hrl2.out] at hB4))
        go_roundw
        case rel =>
          have hgr : wr.grownBy w4 (some g) := grown_trans (grown_trans (grown_drew (grown_refl _ _)) hg3) hg4
          have hdl : (l'.drop 64).length = l'.length - 64 := List.length_drop
          have htl : (l'.take 64).length = 64 := by rw [List.length_take]; omega
          refine ⟨if c' = 64 then some ⟨pb, po, none⟩ else some ⟨pb, po + 64, none⟩, c' - 64, M ++ l'.take 64, l'.drop 64, by rw [hdl], by rw [hdl]; omega, Nat.le_trans (Nat.sub_le _ _) hcm', ?_, ?_, ?_, by rw [List.append_assoc, List.take_append_drop]; exact HMl.out, grown_trans hg hgr⟩
          · split
            · rw [List.drop_eq_nil_of_le (by omega)]; exact Rd.nil _ _
            · have := hl'.drop 64
              unfold bvs at *
              rw [← List.map_drop] at this
              exact this.grown hgr (fun _ b o hb => by injection hb with hb; injection hb with hb; subst hb; simpa using hpg)
          · intro _ ad had
            split at had <;> (injection had with had; subst had; exact hpg)
          · refine ⟨by rw [List.length_append, htl]; have := HdM.out; omega, rest2, Hrl2.out, ?_⟩
            have e0 : M.length % 64 = 0 := by have := HdM.out; omega
            have e := hs_fill M (l'.take 64) [] (by rw [e0, List.drop_eq_nil_of_le (by omega)]; rfl) (by rw [htl]; omega)
            rw [e, List.length_append, htl]
            have e1 : (hs M (M.length / 64)).take (fun j => (List.take (M.length % 64) [] ++ l'.take 64).getD j 0) = (hs M (M.length / 64)).take fun j => l'.getD j 0 :=
              take_congr (fun j hj => by simp [List.getD_eq_getElem?_getD, hj]) _
            rw [e1]
            exact hB4
        case measure =>
          show l'.length - 64 < l'.length
          omega
      · have hx4 : (bvs l').length = Nat.min l'.length 64 := by rw [bvs_length]; exact (Nat.min_eq_left (by omega)).symm
        have hfit : 8 + (bvs l').length ≤ (hcells (hs M (M.length / 64)) rest2 M.length).length := by rw [hcells_length _ _ Hrl2.out, bvs_length]; omega
        have Hx4 := Lib.hid hx4
        have Hfit := Lib.hid hfit
        have hlay : lay (hcells (hs M (M.length / 64)) rest2 M.length) 8 (bvs l') = hcells (hs M (M.length / 64)) (l' ++ rest2.drop l'.length) M.length := by
          have := hcells_rest (hs M (M.length / 64)) rest2 Hrl2.out M.length 0 l' (by omega)
          simpa using this
        have hrl3 : (l' ++ rest2.drop l'.length).length = 64 := by simp [Hrl2.out]; omega
        have Hlay := Lib.hid hlay
        have Hrl3 := Lib.hid hrl3
        have hl0 : ((bvs l').length : Int) = (l'.length : Int) := by rw [bvs_length]
        have q1 : IntKind.u64.wrap (l'.length : Int) = (l'.length : Int) := IntWalk.u64_in _ (by omega)
        have q2 : IntKind.u64.wrap ((M.length : Int) + (l'.length : Int)) = (M.length : Int) + (l'.length : Int) := IntWalk.u64_in _ (by omega)
        clear hx4 hfit hlay hrl3
        go_wp2
        go_region_law (first | ((try simp only [List.getElem_toArray, List.getElem_cons_zero, List.getElem_cons_succ, Act.put, List.setIfInBounds_toArray, List.set_cons_zero, List.set_cons_succ]); refine step_copy (by rfl) (.tmp 70) (.tmp 71) 27 27 5 (by rfl) Tryd.underlying27 (by kernel_rfl) g 8 64 64 (by rfl) A' l'.length c' (by rfl) 86 _ hB.drew (bvs l') Hx4.out hl' Hfit.out (oneCell_bvs l') ?_; intro w1 hB1 hg1 hs1; rw [Hlay.out] at hB1; have e72 : w1.cell? ⟨g, 72, none⟩ = some (.int .u64 (M.length : Int)) := (hB1.cell 72).trans (hcells_n _ _ Hrl3.out _); have f72 : w1.frozen? ⟨g, 72, none⟩ = false := hB1.frozen _))
        all_goals go_wp2
        all_goals
          refine bodyPost_end (results_none rfl _ _ _) rfl ⟨rfl, ?_, grown_trans hg (grown_trans (grown_drew (grown_refl _ _)) (grown_setCell hg1 (.inl rfl) _))⟩
          have hBf : Blk (w1.setCell ⟨g, 72, none⟩ (.int .u64 ((M.length : Int) + (l'.length : Int)))) g 86 (hcells (hs M (M.length / 64)) (l' ++ rest2.drop l'.length) (M.length + l'.length)) := by
            have := hB1.set_ 72 (.int .u64 ((M.length : Int) + (l'.length : Int)))
            rw [← Int.natCast_add, hcells_set _ _ Hrl3.out] at this
            rw [← Int.natCast_add]
            exact this
          have e0 : M.length % 64 = 0 := by have := HdM.out; omega
          rw [← HMl.out]
          refine fill_less (rest := rest2) Hrl2.out (by rw [e0, List.drop_eq_nil_of_le (by omega)]; rfl) (by omega) hm1 ?_
          rw [e0]
          simpa using hBf
theorem write_len (w : World) (g : Nat) (m l : List UInt8) (n : Nat) (hn : n = l.length) (hH : HashAt w g m) (A : Option Addr) (cap : Nat) (hl : Rd w A (bvs l)) (hcap : n ≤ cap) (hcm : cap ≤ maxLen) (hA : l ≠ [] → ∀ ad, A = some ad → ad.block ≠ g)
    (hlen : m.length + l.length < 4611686018427387904) (htab : Tab w) (hg0 : g ≠ 0) :
    Calls Tryd.prog 36 #[.pointer (some ⟨g, 0, none⟩), .slice A n cap] w fun e w' =>
      e = .returned (.tuple #[]) ∧ HashAt w' g (m ++ l) ∧ w.grownBy w' (some g) := by
  subst hn
  exact write_any w g m l hH A cap hl hcap hcm hA hlen htab hg0
end Go.Proofs.YtcmponmgaikkfaaDoor
