/-
  docketbook.Same, Within; docketlaw17's sameInclusions, few.
-/
import Derived.Test.YtcmponmgaikkfaaDoorReach
namespace Go.Proofs.YtcmponmgaikkfaaDoor
open Go.RowKit

section
variable {P : Program} {ops : Array Oper} {rest : List Oper} {a : Act} {C : World → Prop} {Q : Act → Prop} {dst : Option Tmp} {ty yt T : TypeId} {pos : String} {after : Array Edge} {gd : Option (Nat × Bool)} {x y : Operand}
/-- A whole array or struct is read, in a region that only reads. -/
theorem q_load (hw : Region.wanted { dst, op := .load T x, type := ty, pos, after, guard := gd } (yielded ops a.tmps) = true) (D : TypeDesc) (hu : P.underlying T = some D) (hd : D.isRow = true) (g off : Nat) (hx : a.eval x = .pointer (some ⟨g, off, none⟩))
    (xs : List Value) (hi : (P.info? T).map (·.size) = some xs.length) (hc : ∀ w, C w → w.rangeAt g off xs) (h : wpQuiet P ops C Q rest (a.put dst (.agg xs.toArray))) :
    wpQuiet P ops C Q ({ dst, op := .load T x, type := ty, pos, after, guard := gd } :: rest) a :=
  BigFrame.wpQuiet_want hw fun _ hK => ⟨.agg xs.toArray, fun w hw' => by
    unfold Oper.quietAt execOp
    simp only [hx, Sem.run_bind, run_loadAt_mid w g off T xs D (hc w hw') hu hd hi, Result.andThen_ok, Sem.run_pure, Oper.quietUpon]
    exact ⟨trivial, trivial⟩, hK _ h⟩
end
section
variable {ops : Array Oper} {rest : List Oper} {a : Act} {C : World → Prop} {Q : Act → Prop} {dst : Option Tmp} {ty yt : TypeId} {pos : String} {after : Array Edge} {gd : Option (Nat × Bool)} {x y : Operand}
theorem q_ne_digest (hw : Region.wanted { dst, op := .binOp .neq 23 x y yt, type := ty, pos, after, guard := gd } (yielded ops a.tmps) = true) (xs ys : List UInt8) (hx : xs.length = 32) (hy : ys.length = 32) (hvx : a.eval x = .agg (bvs xs).toArray) (hvy : a.eval y = .agg (bvs ys).toArray)
    (h : wpQuiet Tryd.prog ops C Q rest (a.put dst (.bool (!(xs == ys))))) : wpQuiet Tryd.prog ops C Q ({ dst, op := .binOp .neq 23 x y yt, type := ty, pos, after, guard := gd } :: rest) a :=
  BigFrame.wpQuiet_want hw fun _ hK => ⟨.bool (!(xs == ys)), fun w _ => by
    unfold Oper.quietAt execOp
    simp only [hvx, hvy, Sem.run_bind, run_eqGuard_agg w .neq 23 x y _ _ guard_digest, Result.andThen_ok, run_ne_digest w xs ys hx hy, Sem.run_pure, Oper.quietUpon]
    exact ⟨trivial, trivial⟩, hK _ h⟩
end

theorem u8_beq (x y : UInt8) : (((x.toNat : Int) != (y.toNat : Int)) = true) ↔ x ≠ y := by
  rw [bne_iff_ne, ne_eq, ne_eq, Int.natCast_inj, UInt8.toNat_inj]
theorem take_eq_of {α : Type} [Inhabited α] {l l' : List α} {k : Nat} (hk : k < l.length) (hk' : k < l'.length) (h : l.take k = l'.take k) (he : l[k] = l'[k]) : l.take (k + 1) = l'.take (k + 1) := by
  rw [List.take_succ_eq_append_getElem hk, List.take_succ_eq_append_getElem hk', h, he]

set_option maxRecDepth 100000 in
theorem sameB_any (w : World) (l l' : List UInt8) (A : Option Addr) (c : Nat) (B : Option Addr) (d : Nat) (hA : Rd w A (bvs l)) (hB : Rd w B (bvs l')) (hl : l.length ≤ maxLen) :
    Calls Tryd.prog 8 #[.slice A l.length c, .slice B l'.length d] w fun e w' => e = .returned (.bool (l == l')) ∧ Below w.heap.size w w' := by
  have hm : l.length ≤ 9223372036854775807 := by simp only [maxLen] at hl; omega
  go_enter Tryd.func8, Tryd.ntmps8
  by_cases hlen : l.length = l'.length
  · have h0 : ((l.length : Int) != (l'.length : Int)) = false := by rw [bne_eq_false_iff_eq]; omega
    go_wp2
    go_loopw [5] (fun iv wr => ∃ k : Nat, k ≤ l.length ∧ iv = .int .i64 (k : Int) ∧ Hid (l.take k = l'.take k) ∧ Below w.heap.size w wr) (fun iv _ => l.length - (intOf iv).toNat)
    case atStart => exact ⟨0, by omega, rfl, Lib.hid rfl, Below.refl _ _⟩
    case round =>
      obtain ⟨k, hk, rfl, htk, hb⟩ := hrel
      by_cases hlt : k < l.length
      · have hlt' : k < l'.length := by omega
        obtain ⟨b, o, rfl, hc⟩ := hA (by intro e; have : l.length = 0 := (by rw [← bvs_length, e]; rfl); omega)
        obtain ⟨b2, o2, rfl, hc2⟩ := hB (by intro e; have : l'.length = 0 := (by rw [← bvs_length, e]; rfl); omega)
        have hx : wr.cell? ⟨b, o + k, none⟩ = some (.int .u8 (l[k].toNat : Int)) := by
          have := hc k (bv l[k]) (by simp [bvs, List.getElem?_eq_getElem hlt])
          rw [hb.cell (p := ⟨b, _, none⟩) (block_lt_of_cell this)]; exact this
        have hy : wr.cell? ⟨b2, o2 + k, none⟩ = some (.int .u8 (l'[k].toNat : Int)) := by
          have := hc2 k (bv l'[k]) (by simp [bvs, List.getElem?_eq_getElem hlt'])
          rw [hb.cell (p := ⟨b2, _, none⟩) (block_lt_of_cell this)]; exact this
        by_cases he : l[k] = l'[k]
        · have Hn := Lib.hid (take_eq_of hlt hlt' htk.out he)
          have h1 : ((l[k].toNat : Int) != (l'[k].toNat : Int)) = false := by rw [bne_eq_false_iff_eq, he]
          generalize (l[k].toNat : Int) = x at hx h1
          generalize (l'[k].toNat : Int) = y at hy h1
          clear hc hc2 hA hB
          go_wp2
          go_quiet (fail)
          go_wp2
          go_roundw
          case rel => exact ⟨k + 1, by omega, by go_num, Hn, below_drewN hb _⟩
          case measure => simp [intOf]; omega
        · have Hn := Lib.hid (show (l == l') = false by rw [beq_eq_false_iff_ne]; intro e; subst e; exact he rfl)
          have h1 : ((l[k].toNat : Int) != (l'[k].toNat : Int)) = true := (u8_beq _ _).2 he
          generalize (l[k].toNat : Int) = x at hx h1
          generalize (l'[k].toNat : Int) = y at hy h1
          clear hc hc2 hA hB
          go_wp2
          go_quiet (fail)
          go_wp2
          exact bodyPost_ret (results_tmp rfl _ _ _) rfl ⟨by rw [Hn.out]; rfl, below_drewN hb _⟩
      · have hkl : k = l.length := by omega
        have Hn := Lib.hid (show (l == l') = true by
          rw [beq_iff_eq]
          have := htk.out
          rwa [List.take_of_length_le (by omega), List.take_of_length_le (by omega)] at this)
        go_wp2
        exact bodyPost_ret (results_tmp rfl _ _ _) rfl ⟨by rw [Hn.out]; rfl, hb⟩
  · have h0 : ((l.length : Int) != (l'.length : Int)) = true := by rw [bne_iff_ne]; omega
    have Hn := Lib.hid (show (l == l') = false by rw [beq_eq_false_iff_ne]; intro e; exact hlen (congrArg _ e))
    go_wp2
    exact bodyPost_ret (results_tmp rfl _ _ _) rfl ⟨by rw [Hn.out]; rfl, Below.refl _ _⟩

theorem range_keep {w w' : World} {b o : Nat} {xs : List Value} (h : w.rangeAt b o xs) (hb : Below w.heap.size w w') : w'.rangeAt b o xs := fun j u hu => by
  have := h j u hu
  rw [hb.cell (p := ⟨b, _, none⟩) (block_lt_of_cell this)]
  exact this

set_option maxRecDepth 100000 in
theorem sameD_any (w : World) (l l' : List (List UInt8)) (A : Option Addr) (c : Nat) (B : Option Addr) (d : Nat) (hA : Digs w A l) (hB : Digs w B l') (hl : l.length ≤ maxLen) :
    Calls Tryd.prog 24 #[.slice A l.length c, .slice B l'.length d] w fun e w' => e = .returned (.bool (l == l')) ∧ Below w.heap.size w w' := by
  have hm : l.length ≤ 9223372036854775807 := by simp only [maxLen] at hl; omega
  go_enter Tryd.func24, Tryd.ntmps24
  by_cases hlen : l.length = l'.length
  · have h0 : ((l.length : Int) != (l'.length : Int)) = false := by rw [bne_eq_false_iff_eq]; omega
    go_wp2
    go_loopw [5] (fun iv wr => ∃ k : Nat, k ≤ l.length ∧ iv = .int .i64 (k : Int) ∧ Hid (l.take k = l'.take k) ∧ Below w.heap.size w wr) (fun iv _ => l.length - (intOf iv).toNat)
    case atStart => exact ⟨0, by omega, rfl, Lib.hid rfl, Below.refl _ _⟩
    case round =>
      obtain ⟨k, hk, rfl, htk, hb⟩ := hrel
      by_cases hlt : k < l.length
      · have hlt' : k < l'.length := by omega
        obtain ⟨b, o, rfl, hc⟩ := hA.2 (by intro e; have : 32 * l.length = 0 := (by rw [← digs_length hA.1, e]; rfl); omega)
        obtain ⟨b2, o2, rfl, hc2⟩ := hB.2 (by intro e; have : 32 * l'.length = 0 := (by rw [← digs_length hB.1, e]; rfl); omega)
        have hx := range_keep (hA.range k hlt) hb
        have hy := range_keep (hB.range k hlt') hb
        have hlx := hA.1 l[k] (List.getElem_mem hlt)
        have hly := hB.1 l'[k] (List.getElem_mem hlt')
        have hcase : (l[k] = l'[k] ∧ l.take (k + 1) = l'.take (k + 1)) ∨ (l[k] ≠ l'[k] ∧ (l == l') = false) := by
          by_cases he : l[k] = l'[k]
          · exact .inl ⟨he, take_eq_of hlt hlt' htk.out he⟩
          · exact .inr ⟨he, by rw [beq_eq_false_iff_ne]; intro e; subst e; exact he rfl⟩
        generalize l[k] = x at hx hlx hcase
        generalize l'[k] = y at hy hly hcase
        have Hx := Lib.hid (show 32 = (bvs x).length by rw [bvs_length, hlx])
        have Hy := Lib.hid (show 32 = (bvs y).length by rw [bvs_length, hly])
        clear hc hc2 hA hB
        go_wp2
        refine wp_region_quiet_below (by kernel_rfl) (by kernel_rfl) ?_
        repeat (first
          | (refine q_load rfl _ Tryd.underlying23 rfl b (o + k * 32) rfl (bvs x) (by rw [← Hx.out]; exact size_digest) (fun w' hw' => range_keep hx (by obtain ⟨p, rfl⟩ := hw'; exact below_regrown _ _ _)) ?_; simp only [Act.put, List.setIfInBounds_toArray, List.set_cons_succ, List.set_cons_zero])
          | (refine q_load rfl _ Tryd.underlying23 rfl b2 (o2 + k * 32) rfl (bvs y) (by rw [← Hy.out]; exact size_digest) (fun w' hw' => range_keep hy (by obtain ⟨p, rfl⟩ := hw'; exact below_regrown _ _ _)) ?_; simp only [Act.put, List.setIfInBounds_toArray, List.set_cons_succ, List.set_cons_zero])
          | (refine q_ne_digest rfl x y hlx hly rfl rfl ?_; simp only [Act.put, List.setIfInBounds_toArray, List.set_cons_succ, List.set_cons_zero])
          | go_big_quiet_step (fail))
        refine wpQuiet_nil ?_
        rintro w5 ⟨pq, hw5⟩
        have hb5 : Below wr.heap.size wr w5 := by rw [hw5]; exact below_regrown wr pq.d pq.os
        clear hw5
        have hbw : Below w.heap.size w w5 := hb.trans (hb5.mono hb.size)
        rcases hcase with ⟨he, Hn⟩ | ⟨he, Hn⟩
        · have h1 : (x == y) = true := by rw [beq_iff_eq]; exact he
          have Hn' := Lib.hid Hn
          clear Hn
          rw [h1]
          go_wp2
          go_roundw
          case rel => exact ⟨k + 1, by omega, by go_num, Hn', hbw⟩
          case measure => simp [intOf]; omega
        · have h1 : (x == y) = false := by rw [beq_eq_false_iff_ne]; exact he
          have Hn' := Lib.hid Hn
          clear Hn
          rw [h1]
          go_wp2
          exact bodyPost_ret (results_tmp rfl _ _ _) rfl ⟨by rw [Hn'.out]; rfl, hbw⟩
      · have hkl : k = l.length := by omega
        have Hn := Lib.hid (show (l == l') = true by
          rw [beq_iff_eq]
          have := htk.out
          rwa [List.take_of_length_le (by omega), List.take_of_length_le (by omega)] at this)
        go_wp2
        exact bodyPost_ret (results_tmp rfl _ _ _) rfl ⟨by rw [Hn.out]; rfl, hb⟩
  · have h0 : ((l.length : Int) != (l'.length : Int)) = true := by rw [bne_iff_ne]; omega
    have Hn := Lib.hid (show (l == l') = false by rw [beq_eq_false_iff_ne]; intro e; exact hlen (congrArg _ e))
    go_wp2
    exact bodyPost_ret (results_tmp rfl _ _ _) rfl ⟨by rw [Hn.out]; rfl, Below.refl _ _⟩

def sameI (p q : Inc) : Bool := (p.size == q.size) && ((p.number == q.number) && (p.way == q.way))
theorem sameI_refl (p : Inc) : sameI p p = true := by simp [sameI]

set_option maxRecDepth 100000 in
theorem sameIncl_any (w : World) (p q : Inc) (A : Option Addr) (c : Nat) (B : Option Addr) (d : Nat) (hA : Digs w A p.way) (hB : Digs w B q.way) (hl : p.way.length ≤ maxLen) :
    Calls Tryd.prog 9 #[.agg (incCells p.size p.number A p.way.length c).toArray, .agg (incCells q.size q.number B q.way.length d).toArray] w fun e w' => e = .returned (.bool (sameI p q)) ∧ Below w.heap.size w w' := by
  go_enter Tryd.func9, Tryd.ntmps9
  go_wp2_with (first
    | ((with_reducible refine law_box (.tmp 0) 31 (incCells p.size p.number A p.way.length c) ?_ ?_); (rfl); intro g1 w1 hg1 hB1 hr1 hs1; have hb1 : Below w.heap.size w w1 := below_of_grown hr1 (Nat.le_refl _) (by simp))
    | ((with_reducible refine law_box (.tmp 1) 31 (incCells q.size q.number B q.way.length d) ?_ ?_); (rfl); intro g2 w2 hg2 hB2 hr2 hs2; have hb2 : Below w.heap.size w w2 := hb1.trans ((below_of_grown hr2 (Nat.le_refl _) (by simp)).mono hb1.size); have hB1' := hB1.grown hr2 (by simp); have h10 := hB1'.cell 0; have h11 := hB1'.cell 1; have h12 := hB1'.cell 2; have h20 := hB2.cell 0; have h21 := hB2.cell 1; have h22 := hB2.cell 2; simp only [incCells, List.getElem?_cons_succ, List.getElem?_cons_zero] at h10 h11 h12 h20 h21 h22)
    | (go_at_call 24; refine (sameD_any w2 p.way q.way A c B d ⟨hA.1, hA.2.below hb2 (Nat.le_refl _)⟩ ⟨hB.1, hB.2.below hb2 (Nat.le_refl _)⟩ hl).mono ?_; rintro e w3 ⟨rfl, hb3⟩))
  all_goals refine bodyPost_ret (results_tmp (t := 4) rfl _ _ _) rfl ⟨show Ending.returned (Value.bool _) = _ from congrArg (fun b => Ending.returned (Value.bool b)) ?_, ?_⟩
  all_goals first
    | exact hb2.trans (hb3.mono hb2.size)
    | exact hb2
    | simp [sameI, *]

theorem few24_any (w : World) (A : Option Addr) (n c : Nat) (hc : n ≤ c) (hm : c ≤ maxLen) : Calls Tryd.prog 4 #[.slice A n c, .int .i64 2200] w fun e w' => (∃ c', e = .returned (.slice A (min n 2200) c') ∧ min n 2200 ≤ c' ∧ c' ≤ maxLen) ∧ w' = w := by
  have hmm : c ≤ 9223372036854775807 := by simp only [maxLen] at hm; omega
  go_enter Tryd.func4, Tryd.ntmps4
  by_cases h : 2200 < n
  · go_wp2
    exact bodyPost_ret (results_tmp rfl _ _ _) rfl ⟨⟨c, by rw [show min n 2200 = 2200 by omega]; rfl, by omega, hm⟩, rfl⟩
  · go_wp2
    exact bodyPost_ret (results_tmp rfl _ _ _) rfl ⟨⟨c, by rw [show min n 2200 = n by omega]; rfl, by omega, hm⟩, rfl⟩

theorem few25_any (w : World) (A : Option Addr) (n c : Nat) (hc : n ≤ c) (hm : c ≤ maxLen) : Calls Tryd.prog 5 #[.slice A n c, .int .i64 2200] w fun e w' => (∃ c', e = .returned (.slice A (min n 2200) c') ∧ min n 2200 ≤ c' ∧ c' ≤ maxLen) ∧ w' = w := by
  have hmm : c ≤ 9223372036854775807 := by simp only [maxLen] at hm; omega
  go_enter Tryd.func5, Tryd.ntmps5
  by_cases h : 2200 < n
  · go_wp2
    exact bodyPost_ret (results_tmp rfl _ _ _) rfl ⟨⟨c, by rw [show min n 2200 = 2200 by omega]; rfl, by omega, hm⟩, rfl⟩
  · go_wp2
    exact bodyPost_ret (results_tmp rfl _ _ _) rfl ⟨⟨c, by rw [show min n 2200 = n by omega]; rfl, by omega, hm⟩, rfl⟩

theorem within_any (w : World) (x : Int) (n : Nat) (hn : n < 4294967296) : Calls Tryd.prog 12 #[.int .i64 x, .int .i64 0, .int .i64 (n : Int)] w fun e w' => (∃ r : Nat, e = .returned (.int .i64 (r : Int)) ∧ r ≤ n) ∧ w' = w := by
  go_enter Tryd.func12, Tryd.ntmps12
  have h1 : ((n : Int) + 1 == 0) = false := by rw [beq_eq_false_iff_ne]; omega
  have h2 : x.tmod ((n : Int) + 1) ≤ n ∧ -(n : Int) ≤ x.tmod ((n : Int) + 1) := by
    have := Int.tmod_lt_of_pos x (show 0 < (n : Int) + 1 by omega)
    have := Int.lt_tmod_of_pos x (show 0 < (n : Int) + 1 by omega)
    omega
  go_wp2
  · exact bodyPost_ret (results_tmp (t := 6) rfl _ _ _) rfl ⟨⟨(x.tmod ((n : Int) + 1) + n + 1).toNat, show Ending.returned (Value.int .i64 _) = _ from congrArg (fun y => Ending.returned (Value.int .i64 y)) (Int.toNat_of_nonneg (by omega)).symm, by omega⟩, rfl⟩
  · exact bodyPost_ret (results_tmp (t := 6) rfl _ _ _) rfl ⟨⟨(x.tmod ((n : Int) + 1)).toNat, show Ending.returned (Value.int .i64 _) = _ from congrArg (fun y => Ending.returned (Value.int .i64 y)) (Int.toNat_of_nonneg (by omega)).symm, by omega⟩, rfl⟩
end Go.Proofs.YtcmponmgaikkfaaDoor
