/-
  proof.EncodePiece: which pieces it takes.
-/
import Derived.Test.YtcmponmgaikkfaaDoorReach
import Derived.Test.YtcmponmgaikkfaaDoorName
import Derived.Great.BuildSlice
namespace Go.Proofs.YtcmponmgaikkfaaDoor
open Go.RowKit

section
variable {P : Program} {ops : Array Oper} {rest : List Oper} {a : Act} {w : World} {Q : Exit → Act → World → Prop} {dst : Option Tmp} {ty : TypeId} {pos : String} {after : Array Edge} {K : Act → World → Prop}
/-- A slice of one element that is an array or a struct. -/
theorem run_build_one (w : World) (t e : TypeId) (ie : TypeInfo) (z : Value) (hu : P.underlying t = some (.slice e)) (hie : P.info? e = some ie) (hz : ie.zero = some z) (xs : List Value) (hs : ie.size = xs.length) (hp : 0 < xs.length) (hsm : xs.length ≤ 1000) :
    (Instr.buildSlice t 1 #[(0, .agg xs.toArray)]).run P w = .ok (.slice (some ⟨w.heap.size, 0, none⟩) 1 1) (w.alloc (.cells xs.toArray e)) := by
  refine run_buildSlice w t e 1 _ xs.toArray ie z hu hie hz (by rw [hs]; simp; omega) (by rw [hs]; omega) ?_
  have := Great.fill_whole (s := ie.size) (by rw [hs]; exact hp) [.agg xs.toArray] ((Array.range (1 * ie.size)).map (z.cells[· % z.cells.size]!)) (by intro v hv; rw [List.mem_singleton.1 hv]; simp [Value.cells, hs]) (by simp)
  simpa [Value.cells] using this
theorem op_build_one (x : Operand) (t e : TypeId) (ie : TypeInfo) (z : Value) (hu : P.underlying t = some (.slice e)) (hie : P.info? e = some ie) (hz : ie.zero = some z) (xs : List Value) (hx : a.eval x = .agg xs.toArray) (hs : ie.size = xs.length) (hp : 0 < xs.length) (hsm : xs.length ≤ 1000)
    (h : K (a.put dst (.slice (some ⟨w.heap.size, 0, none⟩) 1 1)) (w.alloc (.cells xs.toArray e))) :
    Oper.wp P { dst, op := .buildSlice t 1 #[(0, x)], type := ty, pos, after, guard := none } a w K Q := by
  unfold Oper.wp execOp
  simp only [List.map_toArray, List.map_cons, List.map_nil, hx, Sem.run_bind, run_build_one w t e ie z hu hie hz xs hs hp hsm, Result.andThen_ok]
  exact h
theorem law_build_one (x : Operand) (t e : TypeId) (ie : TypeInfo) (z : Value) (hu : P.underlying t = some (.slice e)) (hie : P.info? e = some ie) (hz : ie.zero = some z) (xs : List Value) (hx : a.eval x = .agg xs.toArray) (hs : ie.size = xs.length) (hp : 0 < xs.length) (hsm : xs.length ≤ 1000)
    (h : wpList P ops Q rest (a.put dst (.slice (some ⟨w.heap.size, 0, none⟩) 1 1)) (w.alloc (.cells xs.toArray e))) :
    wpList P ops Q ({ dst, op := .buildSlice t 1 #[(0, x)], type := ty, pos, after, guard := none } :: rest) a w :=
  wpList_plain rfl fun _ hK => op_build_one x t e ie z hu hie hz xs hx hs hp hsm (hK _ _ h)
end

/-- A piece's cells. -/
def pieceCells (s : ByteArray) (first : Int) (before : List UInt8) (ev pr : Value) : List Value := [.string s, .int .i64 first] ++ (bvs before ++ [ev, pr])
theorem pieceCells_length (s : ByteArray) (first : Int) (before : List UInt8) (hb : before.length = 32) (ev pr : Value) : (pieceCells s first before ev pr).length = 36 := by
  simp [pieceCells, bvs, hb]
theorem pieceCells_ev (s : ByteArray) (first : Int) (before : List UInt8) (hb : before.length = 32) (ev pr : Value) : (pieceCells s first before ev pr)[34]? = some ev := by
  unfold pieceCells
  rw [List.getElem?_append_right (by simp), List.getElem?_append_right (by simp [bvs, hb])]
  simp [bvs, hb]
theorem pieceCells_pr (s : ByteArray) (first : Int) (before : List UInt8) (hb : before.length = 32) (ev pr : Value) : (pieceCells s first before ev pr)[35]? = some pr := by
  unfold pieceCells
  rw [List.getElem?_append_right (by simp), List.getElem?_append_right (by simp [bvs, hb])]
  simp [bvs, hb]
theorem size_piece : (Tryd.prog.info? 37).map (·.size) = some 36 := by kernel_rfl

theorem reach_all {s : ByteArray} {first : Int} {ls : List (List UInt8)} {qs : List Inc} (h : reachN s first ls qs = ls.length) : ∀ i, i < ls.length → badB s first ls qs i = false := fun i hi => by
  unfold reachN at h
  cases hf : (List.range ls.length).find? (badB s first ls qs) with
  | none =>
    rw [List.find?_eq_none] at hf
    have := hf i (List.mem_range.2 hi)
    simpa using this
  | some k =>
    rw [hf] at h
    have := List.mem_range.1 (List.mem_of_find?_eq_some hf)
    simp at h
    omega
theorem bad_parts {s : ByteArray} {first : Int} {ls : List (List UInt8)} {qs : List Inc} {i : Nat} (h : badB s first ls qs i = false) :
    i ≠ 1000 ∧ bytesTo s ls qs (i + 1) ≤ 2097152 ∧ rowAt ls qs i = true ∧ first ≤ sz qs - i - 1 ∧ (0 < i → (qs.getD (i - 1) default).number < (qs.getD i default).number) := by
  unfold badB at h
  simp only [Bool.or_eq_false_iff, Bool.not_eq_eq_eq_not, Bool.not_false, decide_eq_false_iff_not, Bool.and_eq_false_imp, decide_eq_true_eq] at h
  obtain ⟨⟨⟨⟨h1, h2⟩, h3⟩, h4⟩, h5⟩ := h
  exact ⟨h1, by omega, h3, by omega, fun h => by have := h5 h; omega⟩
theorem rowB_parts {n : Nat} {size number : Int} {m : Nat} {sz : Int} (h : rowB n size number m sz = true) : m ≤ 41 ∧ size = sz ∧ 1 ≤ n ∧ n ≤ 65536 ∧ 1 ≤ size ∧ size ≤ 1099511627776 := by
  unfold rowB inB at h
  simp at h
  obtain ⟨⟨h1, h2, h3, h4⟩, h5, h6, h7, h8⟩ := h
  have := besideN_le size number
  omega
def encCode (s : ByteArray) (first : Int) (before : List UInt8) (ls : List (List UInt8)) (qs : List Inc) : Int := if 0 < ls.length ∧ reachL s first before ls qs = ls.length then 0 else 170

theorem keep {w w1 w2 : World} {a : Addr} {v : Value} (h1 : Below w.heap.size w w1) (h2 : Below w1.heap.size w1 w2) (hc : w.cell? a = some v) : w2.cell? a = some v := by
  have hlt := block_lt_of_cell hc
  rw [h2.cell (Nat.lt_of_lt_of_le hlt h1.size), h1.cell hlt]
  exact hc

set_option maxHeartbeats 8000000 in
set_option maxRecDepth 100000 in
theorem enc_any (w : World) (s : ByteArray) (hs : s.size < 4294967296) (first : Int) (before : List UInt8) (hbf : before.length = 32) (N : Nat) (A : Option Addr) (c : Nat) (vs : List Value) (ls : List (List UInt8)) (B : Option Addr) (d : Nat) (css : List (List Value)) (qs : List Inc)
    (hA : Rd w A vs) (hP : Parts w vs ls) (hB : Rd w B css.flatten) (hQ : Incs w css qs) (HN : Hid (vs.length = N)) (HM : Hid (css.length = N)) (hmax : N ≤ maxLen) (hsl : ∀ l ∈ ls, l.length < 4294967296) (hsq : ∀ q ∈ qs, q.way.length < 4294967296) :
    Calls Tryd.prog 7 #[.agg (pieceCells s first before (.slice A N c) (.slice B N d)).toArray] w fun e w' => (∃ u, e = .returned (.tuple #[u, .int .i64 (encCode s first before ls qs)])) ∧ Below w.heap.size w w' := by
  have Hl := Lib.hid (show 32 = (bvs before).length by rw [bvs_length, hbf])
  have hm : N ≤ 9223372036854775807 := by simp only [maxLen] at hmax; omega
  have Hvl := Lib.hid (show ls.length = N from hP.1.symm.trans HN.out)
  have Hql := Lib.hid (show qs.length = N from hQ.1.symm.trans HM.out)
  go_enter Tryd.func7, Tryd.ntmps7
  by_cases h0 : N = 0
  · have Hc := Lib.hid (show encCode s first before ls qs = 170 by unfold encCode; rw [Hvl.out, if_neg (by omega)])
    have h0' : ((N : Int) == 0) = true := by rw [beq_iff_eq]; omega
    go_wp2_with (first
      | ((with_reducible refine law_box (.tmp 0) 37 (pieceCells s first before (.slice A N c) (.slice B N d)) ?_ ?_); (rfl); intro g1 w1 hg1 hB1 hr1 hs1; have hev := (hB1.cell 34).trans (pieceCells_ev s first before hbf _ _); have hpr := (hB1.cell 35).trans (pieceCells_pr s first before hbf _ _); have hcs := hB1.cell 0; have hfi := hB1.cell 1; simp only [pieceCells, List.cons_append, List.getElem?_cons_succ, List.getElem?_cons_zero] at hcs hfi; have hbr : w1.rangeAt g1 2 (bvs before) := hB1.range_mid; have hb1 : Below w.heap.size w w1 := below_of_grown hr1 (Nat.le_refl _) (by simp)))
    exact bodyPost_ret (results_tmp2 rfl _ _ _) rfl ⟨⟨_, by rw [Hc.out]; rfl⟩, hb1⟩
  · have h0' : ((N : Int) == 0) = false := by rw [beq_eq_false_iff_ne]; omega
    by_cases hr : reachL s first before ls qs = N
    · have Hc := Lib.hid (show encCode s first before ls qs = 0 by unfold encCode; rw [Hvl.out, if_pos ⟨by omega, hr⟩])
      have hr' : (((reachL s first before ls qs : Nat) : Int) != (N : Int)) = false := by rw [bne_eq_false_iff_eq, hr]
      obtain ⟨i23, hi23, hz23, hs23, _⟩ := info_parts info_digest
      obtain ⟨b2, o2, rfl, hzero⟩ : ∃ b2 o2, B = some ⟨b2, o2, none⟩ ∧ w.cell? ⟨b2, o2, none⟩ = some (.int .i64 (sz qs)) := by
        have hc0 : 0 < css.length := by rw [HM.out]; omega
        have hq0 : 0 < qs.length := by rw [Hql.out]; omega
        obtain ⟨b2, o2, rfl, _⟩ := hB (by
          intro e
          have h3 := hQ.three css[0] (List.getElem_mem hc0)
          have := List.flatten_eq_nil_iff.1 e css[0] (List.getElem_mem hc0)
          rw [this] at h3; cases h3)
        obtain ⟨W0, d0, hq, _⟩ := hQ.2 0 css[0] qs[0] (List.getElem?_eq_getElem hc0) (List.getElem?_eq_getElem hq0)
        have := hB.group hQ.three 0 hc0 (by decide) 0 (.int .i64 (sz qs)) (by rw [hq]; simp [incCells, sz, List.getD_eq_getElem?_getD, List.getElem?_eq_getElem hq0])
        simp only [Nat.zero_mul, Nat.add_zero] at this
        exact ⟨b2, o2, rfl, this⟩
      have hbegin : beginsB s first before = true := by
        unfold reachL at hr
        split at hr
        · assumption
        · exact absurd hr.symm h0
      have hs64 : s.size ≤ 64 := by
        unfold beginsB at hbegin
        simp only [Bool.and_eq_true] at hbegin
        exact namedB_size hbegin.1
      have Hall := Lib.hid (show ∀ i, i < N → badB s first ls qs i = false by
        have h1 : reachN s first ls qs = ls.length := by
          unfold reachL at hr; rw [if_pos hbegin] at hr; rw [hr, Hvl.out]
        have := reach_all h1
        rwa [Hvl.out] at this)
      go_wp2_with (first
        | ((with_reducible refine law_box (.tmp 0) 37 (pieceCells s first before (.slice A N c) (.slice (some ⟨b2, o2, none⟩) N d)) ?_ ?_); (rfl); intro g1 w1 hg1 hB1 hr1 hs1; have hev := (hB1.cell 34).trans (pieceCells_ev s first before hbf _ _); have hpr := (hB1.cell 35).trans (pieceCells_pr s first before hbf _ _); have hcs := hB1.cell 0; have hfi := hB1.cell 1; simp only [pieceCells, List.cons_append, List.getElem?_cons_succ, List.getElem?_cons_zero] at hcs hfi; have hbr : w1.rangeAt g1 2 (bvs before) := hB1.range_mid; have hb1 : Below w.heap.size w w1 := below_of_grown hr1 (Nat.le_refl _) (by simp))
        | ((with_reducible refine law_load_g ?_ _ Tryd.underlying23 ?_ g1 2 ?_ (bvs before) ?_ hbr ?_); (rfl); (rfl); (rfl); (rw [← Hl.out]; exact size_digest))
        | (go_at_call 14; refine (reach_any _ s hs first before hbf N A c vs ls (some ⟨b2, o2, none⟩) d css qs (hA.below hb1 (Nat.le_refl _)) (hP.below hb1 (Nat.le_refl _)) (hB.below hb1 (Nat.le_refl _)) (hQ.below hb1 (Nat.le_refl _)) HN HM hmax hsl hsq).mono ?_; rintro e w2 ⟨rfl, hb2⟩)
        | (go_at_call 16; have hB2 := hB1.below hb2 hB1.lt; have hb02 : Below w.heap.size w w2 := hb1.trans (hb2.mono hb1.size); refine (octnew_any w2).mono ?_; rintro e w3 ⟨p, rfl, hW3, hb3⟩; have hB3 := hB2.below hb3 hB2.lt)
        | (go_at_call 17; refine (put8_any w3 p w2.heap.size 0 _ _ hW3 hb3.size (by omega)).mono ?_; rintro e w4 ⟨rfl, v4, hW4, hs4⟩; have hb4 : Below w2.heap.size w2 w4 := hb3.trans (hW3.step_below hs4 hb3.size); have hB4 := hB2.below hb4 hB2.lt; have hcs4 := (hB4.cell 0).trans (show _ = some (Value.string s) from rfl))
        | (go_at_call 18; refine (name_any w4 p w2.heap.size _ v4 s hW4 hb4.size hs64 (by omega)).mono ?_; rintro e w5 ⟨rfl, v5, hW5, hs5⟩; have hb5 : Below w2.heap.size w2 w5 := hb4.trans (hW4.step_below hs5 hb4.size); have hB5 := hB2.below hb5 hB2.lt; have hfi5 := (hB5.cell 1).trans (show _ = some (Value.int .i64 first) from rfl); have hbr5 : w5.rangeAt g1 2 (bvs before) := hB5.range_mid)
        | ((with_reducible refine law_load_g ?_ _ Tryd.underlying23 ?_ g1 2 ?_ (bvs before) ?_ hbr5 ?_); (rfl); (rfl); (rfl); (rw [← Hl.out]; exact size_digest))
        | ((with_reducible refine law_build_one (.tmp 46) 29 23 i23 _ Tryd.underlying29 hi23 hz23 (bvs before) ?_ ?_ ?_ ?_ ?_); (rfl); (rw [hs23, ← Hl.out]); (rw [← Hl.out]; decide); (rw [← Hl.out]; decide)))
      refine (number_any (w5.alloc (.cells (bvs before).toArray 23)) p w2.heap.size _ v5 first (hW5.alloc _) (by have := hb5.size; simp; omega) (some ⟨w5.heap.size, 0, none⟩) 1 [before] ⟨by intro x hx; rw [List.mem_singleton.1 hx]; exact hbf, by rw [List.flatMap_cons, List.flatMap_nil, List.append_nil]; exact rd_alloc w5 _ _⟩ (fun _ => far_new hW5 (by intro b o e; injection e with e; injection e with e1; omega)) (by simp [maxLen]) (by simp; omega)).mono ?_
      rintro e w6 ⟨rfl, v6, hW6, hs6⟩
      have hb6 : Below w2.heap.size w2 w6 := hb5.trans (hW5.step_below (((Step.refl _ _ _).alloc _).trans hs6) hb5.size)
      have hB6 := hB2.below hb6 hB2.lt
      have hpr6 := (hB6.cell 35).trans (pieceCells_pr s first before hbf _ _)
      have hz6 := keep hb02 hb6 hzero
      have hW6' : Wr w6 p w2.heap.size v6 (s.size + 42) := by
        rw [show s.size + 42 = 0 + 1 + 1 + s.size + 8 + 32 * [before].length by simp; omega]
        exact hW6
      clear hW6 hW5 hs6 hs5 hW4 hs4 hW3 hb3 hB3 hB4 hB5 hcs4 hfi5 hbr5 hcs hfi hbr hev hpr hb4 hb5 hr' h0' hB1 hr1
      go_wp2_with (first
        | (go_at_call 19; refine (number_any w6 p w2.heap.size _ v6 (sz qs) hW6' hb6.size none 0 [] ⟨by simp, Rd.nil _ _⟩ (fun h => absurd rfl h) (by simp [maxLen]) (by simp; omega)).mono ?_; rintro e w7 ⟨rfl, v7, hW7, hs7⟩; have hb7 : Below w2.heap.size w2 w7 := hb6.trans (hW6'.step_below hs7 hb6.size))
        | (go_at_call 20; refine (put32_any w7 p w2.heap.size _ v7 _ hW7 hb7.size (by simp; omega)).mono ?_; rintro e w8 ⟨rfl, v8, hW8, hs8⟩; have hb8 : Below w2.heap.size w2 w8 := hb7.trans (hW7.step_below hs8 hb7.size); have hB8 := hB2.below hb8 hB2.lt; have hev8 := (hB8.cell 34).trans (pieceCells_ev s first before hbf _ _)))
      have hW8' : Wr w8 p w2.heap.size v8 (bytesTo s ls qs 0) := by
        rw [show bytesTo s ls qs 0 = s.size + 42 + 8 + 32 * ([] : List (List UInt8)).length + 4 by show 54 + s.size = _; simp; omega]
        exact hW8
      clear hW8 hW7 hs7 hs8 hW6' hb6 hB6 hpr6 hz6 hb7 hB8 hev8
      go_loopw [63] (fun iv wr => ∃ k : Nat, k ≤ N ∧ iv = .int .i64 (k : Int) ∧ ∃ v, Wr wr p w2.heap.size v (bytesTo s ls qs k) ∧ Below w2.heap.size w2 wr) (fun iv _ => N - (intOf iv).toNat)
      case atStart => exact ⟨0, by omega, rfl, v8, hW8', hb8⟩
      case round =>
        obtain ⟨k, hk, rfl, v, hWr, hb⟩ := hrel
        by_cases hlt : k < N
        · obtain ⟨b, o, rfl, hc⟩ := hA (by intro e; have := HN.out; rw [e] at this; simp at this; omega)
          have hlk : k < ls.length := by rw [Hvl.out]; exact hlt
          have hqk : k < qs.length := by rw [Hql.out]; exact hlt
          have hvk' : k < vs.length := by rw [HN.out]; exact hlt
          have hck' : k < css.length := by rw [HM.out]; exact hlt
          obtain ⟨Ak, ck, hvk, h1, h2, h3⟩ := hP.2 k vs[k] ls[k] (List.getElem?_eq_getElem hvk') (List.getElem?_eq_getElem hlk)
          obtain ⟨Wk, dk, hqv, h4, h5, h6⟩ := hQ.2 k css[k] qs[k] (List.getElem?_eq_getElem hck') (List.getElem?_eq_getElem hqk)
          obtain ⟨-, hby, hrow, -, -⟩ := bad_parts (Hall.out k hlt)
          have Hn : ls.getD k [] = ls[k] := by rw [List.getD_eq_getElem?_getD, List.getElem?_eq_getElem hlk]; rfl
          have Hq : qs.getD k default = qs[k] := by rw [List.getD_eq_getElem?_getD, List.getElem?_eq_getElem hqk]; rfl
          have hrp := rowB_parts hrow
          rw [Hn, Hq] at hrp
          obtain ⟨hm41, -, hn1, hn2, -, -⟩ := hrp
          have Hby := Lib.hid (show bytesTo s ls qs (k + 1) = bytesTo s ls qs k + (12 + ls[k].length + 32 * qs[k].way.length) by
            show bytesTo s ls qs k + (12 + (ls.getD k []).length + 32 * (qs.getD k default).way.length) = _
            rw [Hn, Hq])
          rw [Hby.out] at hby
          have hcell := keep hb02 hb ((hc k vs[k] (List.getElem?_eq_getElem hvk')).trans (by rw [hvk]))
          have hnum := hB.group hQ.three k hck' (by decide) 1 (.int .i64 qs[k].number) (by rw [hqv]; rfl)
          have hway := hB.group hQ.three k hck' (by decide) 2 (.slice Wk qs[k].way.length dk) (by rw [hqv]; rfl)
          obtain ⟨q, hqq⟩ : ∃ q, q = qs[k] := ⟨_, rfl⟩
          obtain ⟨lk, hlk'⟩ : ∃ l, l = ls[k] := ⟨_, rfl⟩
          rw [← hqq] at hnum hway h4 h6 hby Hby hm41
          rw [← hlk'] at hcell h1 h3 hby Hby hn1 hn2
          have hnumr := keep hb02 hb hnum
          have hBr := hB2.below hb hB2.lt
          have hprr := (hBr.cell 35).trans (pieceCells_pr s first before hbf _ _)
          have hlow : ∀ b' o', Ak = some ⟨b', o', none⟩ → b' < w2.heap.size := fun b' o' e => Nat.lt_of_lt_of_le (h3.blk_lt (by intro e; have : lk.length = 0 := (by rw [← bvs_length, e]; rfl); omega) b' o' e) hb02.size
          have hlow2 : q.way.flatMap bvs ≠ [] → ∀ b' o', Wk = some ⟨b', o', none⟩ → b' < w2.heap.size := fun hne b' o' e => Nat.lt_of_lt_of_le (h6.2.blk_lt hne b' o' e) hb02.size
          have hrd2 : Rd w2 Ak (bvs lk) := h3.below hb02 (Nat.le_refl _)
          have hdg2 : Digs w2 Wk q.way := ⟨h6.1, h6.2.below hb02 (Nat.le_refl _)⟩
          obtain ⟨bk, hbk⟩ : ∃ n, n = bytesTo s ls qs k := ⟨_, rfl⟩
          rw [← hbk] at hWr hby Hby
          clear hqq hlk' hbk hvk hqv hc hlk hqk hvk' hck' h1 h2 Hn Hq hrow hnum h3 h6 hA hP hQ hb8 hW8' hB Hall
          go_wp2_with (first
            | (go_at_call 19; refine (number_any wr p w2.heap.size bk v q.number hWr hb.size none 0 [] ⟨by simp, Rd.nil _ _⟩ (fun h => absurd rfl h) (by simp [maxLen]) (by simp; omega)).mono ?_; rintro e wa ⟨rfl, va, hWa, hsa⟩; have hba : Below w2.heap.size w2 wa := hb.trans (hWr.step_below hsa hb.size))
            | (go_at_call 21; refine (bytes_any wa p w2.heap.size _ va hWa hba.size Ak ck lk (hrd2.below hba (Nat.le_refl _)) (far_low hWa hlow) hn2 (by simp; omega)).mono ?_; rintro e wb ⟨rfl, vb, hWb, hsb⟩; have hbb : Below w2.heap.size w2 wb := hba.trans (hWa.step_below hsb hba.size); have hBb := hB2.below hbb hB2.lt; have hprb := (hBb.cell 35).trans (pieceCells_pr s first before hbf _ _); have hwayb := keep hb02 hbb hway)
            | (go_at_call 22; refine (digests_any wb p w2.heap.size _ vb hWb hbb.size Wk dk q.way ⟨hdg2.1, hdg2.2.below hbb (Nat.le_refl _)⟩ (fun hne => far_low hWb (hlow2 hne)) (by simp only [maxLen]; omega) (by simp; omega)).mono ?_; rintro e wc ⟨rfl, vc, hWc, hsc⟩; have hbc : Below w2.heap.size w2 wc := hbb.trans (hWb.step_below hsc hbb.size)))
          go_roundw
          case rel => exact ⟨k + 1, by omega, by go_num, vc, by rw [Hby.out, show bk + (12 + lk.length + 32 * q.way.length) = bk + 8 + 32 * ([] : List (List UInt8)).length + 4 + lk.length + 32 * q.way.length by simp; omega]; exact hWc, hbc⟩
          case measure => simp [intOf]; omega
        · have hkN : k = N := by omega
          have hbN : bytesTo s ls qs k < 70368744177664 := by
            obtain ⟨k', rfl⟩ : ∃ k', k = k' + 1 := ⟨k - 1, by omega⟩
            have := (bad_parts (Hall.out k' (by omega))).2.1
            omega
          go_wp2_with (first
            | (go_at_call 23; refine (all_any wr p w2.heap.size _ v hWr hb.size hbN).mono ?_; rintro e wd ⟨⟨u, rfl⟩, hbd⟩))
          exact bodyPost_ret (results_tmp2 rfl _ _ _) rfl ⟨⟨_, by rw [Hc.out]; rfl⟩, hb02.trans ((hb.trans hbd).mono hb02.size)⟩
    · have Hc := Lib.hid (show encCode s first before ls qs = 170 by unfold encCode; rw [Hvl.out, if_neg (by omega)])
      have hr' : (((reachL s first before ls qs : Nat) : Int) != (N : Int)) = true := by rw [bne_iff_ne]; omega
      go_wp2_with (first
        | ((with_reducible refine law_box (.tmp 0) 37 (pieceCells s first before (.slice A N c) (.slice B N d)) ?_ ?_); (rfl); intro g1 w1 hg1 hB1 hr1 hs1; have hev := (hB1.cell 34).trans (pieceCells_ev s first before hbf _ _); have hpr := (hB1.cell 35).trans (pieceCells_pr s first before hbf _ _); have hcs := hB1.cell 0; have hfi := hB1.cell 1; simp only [pieceCells, List.cons_append, List.getElem?_cons_succ, List.getElem?_cons_zero] at hcs hfi; have hbr : w1.rangeAt g1 2 (bvs before) := hB1.range_mid; have hb1 : Below w.heap.size w w1 := below_of_grown hr1 (Nat.le_refl _) (by simp))
        | ((with_reducible refine law_load_g ?_ _ Tryd.underlying23 ?_ g1 2 ?_ (bvs before) ?_ hbr ?_); (rfl); (rfl); (rfl); (rw [← Hl.out]; exact size_digest))
        | (go_at_call 14; refine (reach_any _ s hs first before hbf N A c vs ls B d css qs (hA.below hb1 (Nat.le_refl _)) (hP.below hb1 (Nat.le_refl _)) (hB.below hb1 (Nat.le_refl _)) (hQ.below hb1 (Nat.le_refl _)) HN HM hmax hsl hsq).mono ?_; rintro e w2 ⟨rfl, hb2⟩))
      exact bodyPost_ret (results_tmp2 rfl _ _ _) rfl ⟨⟨_, by rw [Hc.out]; rfl⟩, hb1.trans (hb2.mono hb1.size)⟩
end Go.Proofs.YtcmponmgaikkfaaDoor
