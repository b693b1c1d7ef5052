/-
  The law's arguments, opened: slices of bytes, of digests, of inclusion proofs, a digest; what the bound gives.
-/
import Derived.Test.YtcmponmgaikkfaaDoorCuts
import Derived.Test.YtcmponmgaikkfaaDoorRows
import Derived.WalkKit
import Derived.ProofKit
import Derived.OpenShut
import Derived.Deep.Slices
namespace Go.Proofs.YtcmponmgaikkfaaDoor
open Go.ChangeShapes Go.WideShapes Go.ChangeAt Go.RowKit

namespace bulks
theorem one_le {H : Type} (d : DataW H) : 1 ≤ Rows.uptoBulk d := by
  cases d with
  | lit l => cases l <;> simp [Rows.uptoBulk]
  | nil => simp [Rows.uptoBulk]
  | ptr d => simp [Rows.uptoBulk]
  | slice elems spare => simp [Rows.uptoBulk]
  | agg parts => simp [Rows.uptoBulk]
  | iface t d => simp [Rows.uptoBulk]
  | map entries => simp [Rows.uptoBulk]
  | held h => simp [Rows.uptoBulk]
theorem part_le {H : Type} {d : DataW H} {l : List (DataW H)} (h : d ∈ l) : Rows.uptoBulk d ≤ Rows.uptoBulkAll l := by
  induction l with
  | nil => cases h
  | cons x r ih =>
    simp only [Rows.uptoBulkAll]
    cases List.mem_cons.1 h with
    | inl e => subst e; omega
    | inr e => have := ih e; omega
theorem append {H : Type} (l r : List (DataW H)) : Rows.uptoBulkAll (l ++ r) = Rows.uptoBulkAll l + Rows.uptoBulkAll r := by
  induction l with
  | nil => simp [Rows.uptoBulkAll]
  | cons x l ih => simp only [List.cons_append, Rows.uptoBulkAll, ih]; omega
theorem length_le {H : Type} (l : List (DataW H)) : l.length ≤ Rows.uptoBulkAll l := by
  induction l with
  | nil => simp [Rows.uptoBulkAll]
  | cons x r ih => have := one_le x; simp only [Rows.uptoBulkAll, List.length_cons]; omega
theorem slice_elems {H : Type} (elems spare : List (DataW H)) : Rows.uptoBulkAll elems ≤ Rows.uptoBulk (.slice elems spare) := by
  simp only [Rows.uptoBulk]
  omega
theorem map_range {H : Type} (D : Nat → DataW H) (f : Nat → Nat) : ∀ n, (∀ i, i < n → f i ≤ Rows.uptoBulk (D i)) → ((List.range n).map f).sum ≤ Rows.uptoBulkAll ((List.range n).map D)
  | 0, _ => by simp [Rows.uptoBulkAll]
  | n + 1, h => by
    have h1 := map_range D f n (fun i hi => h i (by omega))
    have h2 := h n (by omega)
    rw [List.range_succ, List.map_append, List.map_append, List.sum_append, append]
    simp only [List.map_cons, List.map_nil, List.sum_cons, List.sum_nil, Rows.uptoBulkAll]
    omega
end bulks

theorem spot_none {w : World} {a : Addr} {v : Value} (h : w.cell? a = some v) : a.spot = none := by
  unfold World.cell? at h
  split at h
  · split at h
    · cases h
    · rename_i hs
      cases hsp : a.spot with
      | none => rfl
      | some s => rw [hsp] at hs; exact absurd rfl hs
  · cases h
theorem addr_form {w : World} {a : Addr} {v : Value} (h : w.cell? (a.add 0) = some v) : a = ⟨a.block, a.off, none⟩ := by
  have e : a.add 0 = a := by unfold Addr.add; simp
  rw [e] at h
  have := spot_none h
  cases a
  simp_all
def byteOf (v : Value) : UInt8 := UInt8.ofNat (intOf v).toNat
theorem bv_byteOf {n : Int} (h : (Lit.int .u8 n).wf = true) : bv (byteOf (.int .u8 n)) = .int .u8 n := by
  simp only [Lit.wf, Bool.and_eq_true, decide_eq_true_eq] at h
  have h1 : 0 ≤ n ∧ n ≤ 255 := h
  simp only [bv, byteOf, intOf]
  congr 1
  rw [UInt8.toNat_ofNat']
  omega
theorem cells_u8 : Tryd.prog.cellsOf 5 = 1 := by kernel_rfl
theorem cells_bytes : Tryd.prog.cellsOf 27 = 1 := by kernel_rfl
theorem cells_digest : Tryd.prog.cellsOf 23 = 32 := by kernel_rfl
theorem cells_inc : Tryd.prog.cellsOf 31 = 3 := by kernel_rfl
theorem cells_int : Tryd.prog.cellsOf 3 = 1 := by kernel_rfl
theorem cells_ds : Tryd.prog.cellsOf 29 = 1 := by kernel_rfl

section
variable {H : Type} {enc : TypeId × Value → H} {W : World} {base : Nat} {sp : Nat → Bool} {hd : Bool} {fuel : Nat} {cs : List Value} {x : DataW H × List MemPlace}
/-- A []byte. -/
theorem open_bytes (h : DataW.trod enc Tryd.prog W base sp hd fuel 27 cs = some x) : ∃ (v : Value) (l : List UInt8), cs = [v] ∧ SlB W v l ∧ l.length ≤ Rows.uptoBulk x.1 := by
  rcases Go.Deep.open_slice1 Tryd.underlying27 cells_u8 h with ⟨rfl, rfl⟩ | ⟨a, len, cap, m, n, V, D, Pl, rfl, _, hl, hm, hmm, rfl, hx⟩
  · exact ⟨_, [], rfl, ⟨none, 0, rfl, Nat.le_refl _, by simp [maxLen], Rd.nil _ _⟩, Nat.zero_le _⟩
  · have hle : len ≤ m := by rw [hmm]; split <;> omega
    have hb : ∀ i, i < len → bv (byteOf (V i)) = V i := fun i hi => by
      obtain ⟨k, e, _, hw⟩ := DataW.trod_int Tryd.underlying5 (hx i (by omega)).2
      rw [List.singleton_inj.1 e]
      exact bv_byteOf hw
    refine ⟨_, (List.range len).map fun i => byteOf (V i), rfl, ⟨some a, cap, by simp, by simpa using hl, hm, fun hne => ?_⟩, ?_⟩
    · have h0 : 0 < len := by
        rcases Nat.eq_zero_or_pos len with h | h
        · subst h; exact absurd rfl hne
        · exact h
      have ha := addr_form (hx 0 (by omega)).1
      refine ⟨a.block, a.off, congrArg some ha, fun j u hu => ?_⟩
      have hj : j < len := by
        have := (List.getElem?_eq_some_iff.1 hu).1
        simpa [bvs] using this
      have hv : u = V j := by
        rw [← hb j hj]
        simpa [bvs, List.getElem?_map, List.getElem?_range hj] using hu.symm
      have hc := (hx j (by omega)).1
      rw [ha, add_none] at hc
      rw [hc, hv]
    · have h1 : ((List.range len).map fun i => byteOf (V i)).length = ((List.range len).map D).length := by simp
      rw [h1]
      exact Nat.le_trans (bulks.length_le _) (bulks.slice_elems _ _)
/-- A digest's cells. -/
theorem open_digest (h : DataW.trod enc Tryd.prog W base sp hd fuel 23 cs = some x) : ∃ d : List UInt8, d.length = 32 ∧ cs = bvs d := by
  cases fuel with
  | zero => simp [DataW.trod] at h
  | succ n =>
    rw [DataW.trod_step] at h
    unfold DataW.trodStep at h
    simp only [Tryd.underlying23] at h
    split at h
    · rename_i hl
      rw [cells_digest] at hl
      rw [Option.map_eq_some_iff] at h
      obtain ⟨xs, hxs, _⟩ := h
      rw [cells_u8] at hxs
      have hall : ∀ i, i < 32 → ∃ y, DataW.trod enc Tryd.prog W base sp hd n 5 ((cs.drop (i * 1)).take 1) = some y := fun i hi => by
        exact mapM_each hxs i (List.mem_range.2 hi)
      refine ⟨cs.map byteOf, by simpa using hl, ?_⟩
      apply List.ext_getElem
      · simp [bvs]
      · intro i h1 h2
        obtain ⟨y, hy⟩ := hall i (by omega)
        obtain ⟨k, e, _, hw⟩ := DataW.trod_int Tryd.underlying5 hy
        have hi : cs[i] = .int .u8 k := by
          have e2 : ((cs.drop (i * 1)).take 1)[0]? = some (.int .u8 k) := by rw [e]; rfl
          rw [Nat.mul_one, List.getElem?_take, if_pos (by omega), List.getElem?_drop, Nat.add_zero, List.getElem?_eq_getElem h1] at e2
          exact Option.some.inj e2
        simp only [bvs, List.getElem_map]
        rw [hi, bv_byteOf hw]
    · cases h

theorem groups_inv {css : List (List Value)} {s : Nat} (h : ∀ cs ∈ css, cs.length = s) (hs : 0 < s) {j : Nat} {u : Value} (hu : css.flatten[j]? = some u) : ∃ (k r : Nat) (hk : k < css.length), j = k * s + r ∧ r < s ∧ css[k][r]? = some u := by
  have hlen : css.flatten.length = css.length * s := by
    clear hu
    induction css with
    | nil => simp
    | cons c cs ih =>
      rw [List.flatten_cons, List.length_append, ih (fun x hx => h x (List.mem_cons_of_mem _ hx)), h c (by simp), List.length_cons, Nat.succ_mul]
      omega
  have hj : j < css.length * s := by rw [← hlen]; exact (List.getElem?_eq_some_iff.1 hu).1
  have hk : j / s < css.length := Nat.div_lt_of_lt_mul (by rw [Nat.mul_comm]; exact hj)
  have hr : j % s < s := Nat.mod_lt _ hs
  have hje : j = j / s * s + j % s := by rw [Nat.mul_comm]; exact (Nat.div_add_mod j s).symm
  refine ⟨j / s, j % s, hk, hje, hr, ?_⟩
  have hr' : j % s < css[j / s].length := by rw [h _ (List.getElem_mem hk)]; exact hr
  have := groups_at h (j / s) hk (j % s) _ (List.getElem?_eq_getElem hr')
  rw [← hje, hu] at this
  rw [List.getElem?_eq_getElem hr']
  exact this.symm
/-- Groups of cells, read one by one, lie one behind the other. -/
theorem rd_groups {a : Addr} {css : List (List Value)} {s : Nat} (h : ∀ cs ∈ css, cs.length = s) (hs : 0 < s) (hx : ∀ i (hi : i < css.length), W.cells? base (a.add (i * s)) s = some css[i]) : Rd W (some a) css.flatten := fun hne => by
  have h0 : 0 < css.length := by
    rcases Nat.eq_zero_or_pos css.length with h | h
    · rw [List.eq_nil_of_length_eq_zero h] at hne; exact absurd rfl hne
    · exact h
  obtain ⟨_, hl, hc⟩ := World.cells?_some (hx 0 h0)
  have hc0 := hc 0 hs
  rw [Nat.zero_mul, add_add, Nat.add_zero, List.getElem?_eq_getElem (by rw [hl]; exact hs)] at hc0
  have ha := addr_form hc0
  refine ⟨a.block, a.off, congrArg some ha, fun j u hu => ?_⟩
  obtain ⟨k, r, hk, rfl, hr, hu'⟩ := groups_inv h hs hu
  obtain ⟨_, _, hck⟩ := World.cells?_some (hx k hk)
  have := hck r hr
  rw [add_add, ha, add_none, hu'] at this
  exact this
theorem open_events (h : DataW.trod enc Tryd.prog W base sp hd fuel 24 cs = some x) : ∃ (A : Option Addr) (n c : Nat) (vs : List Value) (ls : List (List UInt8)), cs = [.slice A n c] ∧ n ≤ c ∧ c ≤ maxLen ∧ vs.length = n ∧ Rd W A vs ∧ Parts W vs ls ∧ ∀ l ∈ ls, l.length ≤ Rows.uptoBulk x.1 := by
  rcases Go.Deep.open_slice1 Tryd.underlying24 cells_bytes h with ⟨rfl, rfl⟩ | ⟨a, len, cap, m, n, V, D, Pl, rfl, _, hl, hm, hmm, rfl, hx⟩
  · exact ⟨none, 0, 0, [], [], rfl, Nat.le_refl _, by simp [maxLen], rfl, Rd.nil _ _, ⟨rfl, by simp⟩, by simp⟩
  · have hle : len ≤ m := by rw [hmm]; split <;> omega
    obtain ⟨L, hL⟩ := Go.Deep.choose_lt (n := len) (α := List UInt8) (p := fun i l => SlB W (V i) l ∧ l.length ≤ Rows.uptoBulk (D i)) (fun i hi => by
      obtain ⟨v, l, e, h1, h2⟩ := open_bytes (hx i (by omega)).2
      rw [List.singleton_inj.1 e]
      exact ⟨l, h1, h2⟩)
    refine ⟨some a, len, cap, (List.range len).map V, (List.range len).map L, rfl, hl, hm, by simp, fun hne => ?_, ⟨by simp, fun i v l hv hl' => ?_⟩, fun l hl' => ?_⟩
    · have h0 : 0 < len := by
        rcases Nat.eq_zero_or_pos len with h | h
        · subst h; exact absurd rfl hne
        · exact h
      have ha := addr_form (hx 0 (by omega)).1
      refine ⟨a.block, a.off, congrArg some ha, fun j u hu => ?_⟩
      have hj : j < len := by simpa using (List.getElem?_eq_some_iff.1 hu).1
      have hv : u = V j := by simpa [List.getElem?_map, List.getElem?_range hj] using hu.symm
      have hc := (hx j (by omega)).1
      rw [ha, add_none] at hc
      rw [hc, hv]
    · have hi : i < len := by simpa using (List.getElem?_eq_some_iff.1 hv).1
      have e1 : v = V i := by simpa [List.getElem?_map, List.getElem?_range hi] using hv.symm
      have e2 : l = L i := by simpa [List.getElem?_map, List.getElem?_range hi] using hl'.symm
      rw [e1, e2]
      exact (hL i hi).1
    · obtain ⟨i, hi, rfl⟩ := List.mem_map.1 hl'
      have hi' := List.mem_range.1 hi
      exact Nat.le_trans (hL i hi').2 (Nat.le_trans (bulks.part_le (List.mem_map.2 ⟨i, hi, rfl⟩)) (bulks.slice_elems _ _))
theorem open_digests (h : DataW.trod enc Tryd.prog W base sp hd fuel 29 cs = some x) : ∃ (A : Option Addr) (c : Nat) (ds : List (List UInt8)), cs = [.slice A ds.length c] ∧ ds.length ≤ c ∧ c ≤ maxLen ∧ Digs W A ds ∧ ds.length ≤ Rows.uptoBulk x.1 := by
  rcases Go.Deep.open_slice Tryd.underlying29 h with ⟨rfl, rfl⟩ | ⟨a, len, cap, m, n, D, Pl, rfl, _, hl, hm, hmm, rfl, hx⟩
  · exact ⟨none, 0, [], rfl, Nat.le_refl _, by simp [maxLen], ⟨by simp, Rd.nil _ _⟩, Nat.zero_le _⟩
  · have hle : len ≤ m := by rw [hmm]; split <;> omega
    rw [cells_digest] at hx
    obtain ⟨G, hG⟩ := Go.Deep.choose_lt (n := len) (α := List UInt8) (p := fun i d => d.length = 32 ∧ W.cells? base (a.add (i * 32)) 32 = some (bvs d)) (fun i hi => by
      obtain ⟨cs', h1, h2⟩ := hx i (by omega)
      obtain ⟨d, h3, rfl⟩ := open_digest h2
      exact ⟨d, h3, h1⟩)
    have hlen : ((List.range len).map G).length = len := by simp
    refine ⟨some a, cap, (List.range len).map G, by rw [hlen], by rw [hlen]; exact hl, hm, ⟨fun d hd => ?_, ?_⟩, ?_⟩
    · obtain ⟨i, hi, rfl⟩ := List.mem_map.1 hd
      exact (hG i (List.mem_range.1 hi)).1
    · have e : ((List.range len).map G).flatMap bvs = ((List.range len).map fun i => bvs (G i)).flatten := by rw [List.flatMap_def, List.map_map]; rfl
      rw [e]
      refine rd_groups (base := base) (s := 32) (fun cs hcs => ?_) (by decide) (fun i hi => ?_)
      · obtain ⟨i, hi, rfl⟩ := List.mem_map.1 hcs
        rw [bvs_length]
        exact (hG i (List.mem_range.1 hi)).1
      · have hi' : i < len := by simpa using hi
        simp only [List.getElem_map, List.getElem_range]
        exact (hG i hi').2
    · have h1 : ((List.range len).map G).length = ((List.range len).map D).length := by simp
      rw [h1]
      exact Nat.le_trans (bulks.length_le _) (bulks.slice_elems _ _)
theorem open_inc (h : DataW.trod enc Tryd.prog W base sp hd fuel 31 cs = some x) : ∃ (A : Option Addr) (c : Nat) (q : Inc), cs = incCells q.size q.number A q.way.length c ∧ q.way.length ≤ c ∧ c ≤ maxLen ∧ Digs W A q.way ∧ q.way.length ≤ Rows.uptoBulk x.1 := by
  obtain ⟨xs, n, _, rfl, hl, hlen, hf⟩ := DataW.trod_struct Tryd.underlying31 h
  rw [cells_inc] at hl
  match xs, hlen with
  | [y0, y1, y2], _ =>
    match cs, hl with
    | [c0, c1, c2], _ =>
      have h0 : DataW.trod enc Tryd.prog W base sp hd n 3 (List.take (Tryd.prog.cellsOf 3) (List.drop 0 [c0, c1, c2])) = [y0, y1, y2][0]? := hf 0 _ rfl
      have h1 : DataW.trod enc Tryd.prog W base sp hd n 3 (List.take (Tryd.prog.cellsOf 3) (List.drop 1 [c0, c1, c2])) = [y0, y1, y2][1]? := hf 1 _ rfl
      have h2 : DataW.trod enc Tryd.prog W base sp hd n 29 (List.take (Tryd.prog.cellsOf 29) (List.drop 2 [c0, c1, c2])) = [y0, y1, y2][2]? := hf 2 _ rfl
      rw [cells_int] at h0 h1
      rw [cells_ds] at h2
      obtain ⟨z, e0, _, _⟩ := DataW.trod_int Tryd.underlying3 h0
      obtain ⟨m, e1, _, _⟩ := DataW.trod_int Tryd.underlying3 h1
      obtain ⟨A, c, ds, e2, h3, h4, h5, h6⟩ := open_digests h2
      have e0' : c0 = .int .i64 z := by simpa using e0
      have e1' : c1 = .int .i64 m := by simpa using e1
      have e2' : c2 = .slice A ds.length c := by simpa using e2
      refine ⟨A, c, ⟨z, m, ds⟩, by rw [e0', e1', e2']; rfl, h3, h4, h5, Nat.le_trans h6 ?_⟩
      show _ ≤ Rows.uptoBulk (DataW.agg [y0.1, y1.1, y2.1])
      simp only [Rows.uptoBulk, Rows.uptoBulkAll]
      omega
theorem open_incs (h : DataW.trod enc Tryd.prog W base sp hd fuel 25 cs = some x) : ∃ (A : Option Addr) (n c : Nat) (css : List (List Value)) (qs : List Inc), cs = [.slice A n c] ∧ n ≤ c ∧ c ≤ maxLen ∧ css.length = n ∧ Rd W A css.flatten ∧ Incs W css qs ∧ waysLen qs n ≤ Rows.uptoBulk x.1 := by
  rcases Go.Deep.open_slice Tryd.underlying25 h with ⟨rfl, rfl⟩ | ⟨a, len, cap, m, n, D, Pl, rfl, _, hl, hm, hmm, rfl, hx⟩
  · exact ⟨none, 0, 0, [], [], rfl, Nat.le_refl _, by simp [maxLen], rfl, Rd.nil _ _, ⟨rfl, by simp⟩, Nat.zero_le _⟩
  · have hle : len ≤ m := by rw [hmm]; split <;> omega
    rw [cells_inc] at hx
    obtain ⟨G, hG⟩ := Go.Deep.choose_lt (n := len) (α := List Value × Inc) (p := fun i g => W.cells? base (a.add (i * 3)) 3 = some g.1 ∧ g.2.way.length ≤ Rows.uptoBulk (D i) ∧ ∃ (A : Option Addr) (c : Nat), g.1 = incCells g.2.size g.2.number A g.2.way.length c ∧ g.2.way.length ≤ c ∧ c ≤ maxLen ∧ Digs W A g.2.way) (fun i hi => by
      obtain ⟨cs', h1, h2⟩ := hx i (by omega)
      obtain ⟨A, c, q, h3, h4, h5, h6, h7⟩ := open_inc h2
      exact ⟨(cs', q), h1, h7, A, c, h3, h4, h5, h6⟩)
    refine ⟨some a, len, cap, (List.range len).map fun i => (G i).1, (List.range len).map fun i => (G i).2, rfl, hl, hm, by simp, ?_, ⟨by simp, fun i cs q hcs hq => ?_⟩, ?_⟩
    · refine rd_groups (base := base) (s := 3) (fun cs hcs => ?_) (by decide) (fun i hi => ?_)
      · obtain ⟨i, hi, rfl⟩ := List.mem_map.1 hcs
        obtain ⟨_, _, A, c, e, _⟩ := hG i (List.mem_range.1 hi)
        rw [e]; rfl
      · have hi' : i < len := by simpa using hi
        simp only [List.getElem_map, List.getElem_range]
        exact (hG i hi').1
    · have hi : i < len := by simpa using (List.getElem?_eq_some_iff.1 hcs).1
      have e1 : cs = (G i).1 := by simpa [List.getElem?_map, List.getElem?_range hi] using hcs.symm
      have e2 : q = (G i).2 := by simpa [List.getElem?_map, List.getElem?_range hi] using hq.symm
      rw [e1, e2]
      exact (hG i hi).2.2
    · rw [waysLen_sum, List.take_of_length_le (by simp), List.map_map]
      exact Nat.le_trans (bulks.map_range D (fun i => (G i).2.way.length) len (fun i hi => (hG i hi).2.1)) (bulks.slice_elems _ _)
end
end Go.Proofs.YtcmponmgaikkfaaDoor
