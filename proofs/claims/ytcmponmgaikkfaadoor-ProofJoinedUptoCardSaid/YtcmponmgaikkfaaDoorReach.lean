/-
  proof.reach: how many of the events, from the first on, make a piece.
-/
import Derived.Test.YtcmponmgaikkfaaDoorRow
import Derived.Test.YtcmponmgaikkfaaDoorOct
import Derived.Lib.QuietBelow
import Derived.BigQuiet
namespace Go.Proofs.YtcmponmgaikkfaaDoor
open Go.RowKit

/-- Inclusion proofs, one behind the other. -/
def Incs (w : World) (css : List (List Value)) (qs : List Inc) : Prop :=
  css.length = qs.length ∧ ∀ (i : Nat) cs q, css[i]? = some cs → qs[i]? = some q → ∃ A c, cs = incCells q.size q.number A q.way.length c ∧ q.way.length ≤ c ∧ c ≤ maxLen ∧ Digs w A q.way
theorem Incs.below {w w' : World} {B : Nat} {css : List (List Value)} {qs : List Inc} (h : Incs w css qs) (hb : Below B w w') (hB : w.heap.size ≤ B) : Incs w' css qs :=
  ⟨h.1, fun i cs q h1 h2 => by
    obtain ⟨A, c, e, h3, h4, h5⟩ := h.2 i cs q h1 h2
    exact ⟨A, c, e, h3, h4, h5.1, h5.2.below hb hB⟩⟩
theorem Incs.three {w : World} {css : List (List Value)} {qs : List Inc} (h : Incs w css qs) : ∀ cs ∈ css, cs.length = 3 := fun cs hcs => by
  obtain ⟨i, hi⟩ := List.mem_iff_getElem?.1 hcs
  have hlt : i < qs.length := by rw [← h.1]; exact (List.getElem?_eq_some_iff.1 hi).1
  obtain ⟨A, c, rfl, _⟩ := h.2 i cs qs[i] hi (List.getElem?_eq_getElem hlt)
  rfl
theorem groups_at {css : List (List Value)} {s : Nat} (h : ∀ cs ∈ css, cs.length = s) (k : Nat) (hk : k < css.length) (j : Nat) (u : Value) (hu : css[k][j]? = some u) : css.flatten[k * s + j]? = some u := by
  induction css generalizing k with
  | nil => simp at hk
  | cons d ds ih =>
    rw [List.flatten_cons]
    have hd : d.length = s := h d (by simp)
    cases k with
    | zero =>
      rw [List.getElem?_append_left]
      · simpa using hu
      · have := (List.getElem?_eq_some_iff.1 hu).1; simp at this ⊢; omega
    | succ k =>
      rw [List.getElem?_append_right (by rw [Nat.succ_mul]; omega), show (k + 1) * s + j - d.length = k * s + j by rw [Nat.succ_mul]; omega]
      exact ih (fun x hx => h x (List.mem_cons_of_mem _ hx)) k (by simpa using hk) (by simpa using hu)
theorem Rd.group {w : World} {b o s : Nat} {css : List (List Value)} (hr : Rd w (some ⟨b, o, none⟩) css.flatten) (h : ∀ cs ∈ css, cs.length = s) (k : Nat) (hk : k < css.length) (hs : 0 < s) : w.rangeAt b (o + k * s) css[k] := fun j u hu => by
  have hne : css.flatten ≠ [] := by
    intro e
    have := groups_at h k hk 0 css[k][0]! (by rw [List.getElem?_eq_getElem (by rw [h _ (List.getElem_mem hk)]; exact hs)]; simp [getElem!_pos, h _ (List.getElem_mem hk), hs])
    rw [e] at this
    simp at this
  obtain ⟨b', o', e, hc⟩ := hr hne
  obtain ⟨rfl, rfl⟩ : b = b' ∧ o = o' := by injection e with e; injection e with e1 e2; exact ⟨e1, e2⟩
  have := hc (k * s + j) u (groups_at h k hk j u hu)
  rwa [← Nat.add_assoc] at this

/-- The bytes ahead of event k. -/
def bytesTo (s : ByteArray) (ls : List (List UInt8)) (qs : List Inc) : Nat → Nat
  | 0 => 54 + s.size
  | k + 1 => bytesTo s ls qs k + (12 + (ls.getD k []).length + 32 * (qs.getD k default).way.length)
def sz (qs : List Inc) : Int := (qs.getD 0 default).size
def rowAt (ls : List (List UInt8)) (qs : List Inc) (i : Nat) : Bool := rowB (ls.getD i []).length (qs.getD i default).size (qs.getD i default).number (qs.getD i default).way.length (sz qs)
def badB (s : ByteArray) (first : Int) (ls : List (List UInt8)) (qs : List Inc) (i : Nat) : Bool :=
  decide (i = 1000) || decide (2097152 < bytesTo s ls qs (i + 1)) || !rowAt ls qs i || decide (sz qs - i - 1 < first) || (decide (0 < i) && decide ((qs.getD i default).number ≤ (qs.getD (i - 1) default).number))
def reachN (s : ByteArray) (first : Int) (ls : List (List UInt8)) (qs : List Inc) : Nat := ((List.range ls.length).find? (badB s first ls qs)).getD ls.length
def reachL (s : ByteArray) (first : Int) (before : List UInt8) (ls : List (List UInt8)) (qs : List Inc) : Nat := if beginsB s first before then reachN s first ls qs else 0
theorem find_range (p : Nat → Bool) (n k : Nat) (hk : k ≤ n) (h : ∀ j, j < k → p j = false) (hs : k < n → p k = true) : ((List.range n).find? p).getD n = k := by
  rcases Nat.lt_or_ge k n with hlt | hge
  · have : (List.range n).find? p = some k := by
      rw [List.find?_range_eq_some]
      exact ⟨hs hlt, by simpa using hlt, fun j hj => by rw [h j hj]; rfl⟩
    rw [this]; rfl
  · have : (List.range n).find? p = none := by
      rw [List.find?_eq_none]
      intro j hj
      rw [h j (by have := List.mem_range.1 hj; omega)]
      simp
    rw [this]
    simp
    omega

set_option maxHeartbeats 1000000 in
set_option maxRecDepth 100000 in
theorem reach_any (w : World) (s : ByteArray) (hs : s.size < 4294967296) (first : Int) (before : List UInt8) (hbf : before.length = 32) (N : Nat) (A : Option Addr) (c : Nat) (vs : List Value) (ls : List (List UInt8)) (B : Option Addr) (d : Nat) (css : List (List Value)) (qs : List Inc)
    (hA : Rd w A vs) (hP : Parts w vs ls) (hB : Rd w B css.flatten) (hQ : Incs w css qs) (HN : Hid (vs.length = N)) (HM : Hid (css.length = N)) (hmax : N ≤ maxLen) (hsl : ∀ l ∈ ls, l.length < 4294967296) (hsq : ∀ q ∈ qs, q.way.length < 4294967296) :
    Calls Tryd.prog 14 #[.string s, .int .i64 first, .agg (bvs before).toArray, .slice A N c, .slice B N d] w fun e w' => e = .returned (.int .i64 (reachL s first before ls qs : Nat)) ∧ Below w.heap.size w w' := by
  have Hl := Lib.hid (show 32 = (bvs before).length by rw [bvs_length, hbf])
  have hm : N ≤ 9223372036854775807 := by simp only [maxLen] at hmax; omega
  have Hvl := Lib.hid (show ls.length = N from hP.1.symm.trans HN.out)
  have Hql := Lib.hid (show qs.length = N from hQ.1.symm.trans HM.out)
  go_enter Tryd.func14, Tryd.ntmps14
  cases hbg : beginsB s first before with
  | false =>
    have Hr := Lib.hid (show reachL s first before ls qs = 0 by unfold reachL; rw [hbg]; rfl)
    go_wp2_with (first
      | ((with_reducible refine law_box (.tmp 2) 23 (bvs before) ?_ ?_); (rfl); intro g1 w1 hg1 hB1 hr1 hs1)
      | ((with_reducible refine law_load (.tmp 7) 23 _ Tryd.underlying23 ?_ g1 0 ?_ (bvs before) ?_ hB1.range ?_); (rfl); (rfl); (rw [← Hl.out]; exact size_digest))
      | (go_at_call 13; refine (begins_any _ s hs first before hbf).mono ?_; rintro e w2 ⟨rfl, hb2⟩; rw [hbg]))
    have hb1 : Below w.heap.size w w1 := below_of_grown hr1 (Nat.le_refl _) (by simp)
    exact bodyPost_ret (results_tmp rfl _ _ _) rfl ⟨by rw [Hr.out]; rfl, hb1.trans (hb2.mono hb1.size)⟩
  | true =>
    have Hr := Lib.hid (show reachL s first before ls qs = reachN s first ls qs by unfold reachL; rw [hbg]; rfl)
    go_wp2_with (first
      | ((with_reducible refine law_box (.tmp 2) 23 (bvs before) ?_ ?_); (rfl); intro g1 w1 hg1 hB1 hr1 hs1)
      | ((with_reducible refine law_load (.tmp 7) 23 _ Tryd.underlying23 ?_ g1 0 ?_ (bvs before) ?_ hB1.range ?_); (rfl); (rfl); (rw [← Hl.out]; exact size_digest))
      | (go_at_call 13; refine (begins_any _ s hs first before hbf).mono ?_; rintro e w2 ⟨rfl, hb2⟩; rw [hbg])
      | (go_at_call 27; refine (headBytes_any _ s hs).mono ?_; rintro e w3 ⟨rfl, rfl⟩))
    have hb1 : Below w.heap.size w w1 := below_of_grown hr1 (Nat.le_refl _) (by simp)
    have hb3 : Below w.heap.size w w3 := hb1.trans (hb2.mono hb1.size)
    clear hb2 hb1 hr1 hB1
    go_loopw [11, 23] (fun bv iv wr => ∃ k : Nat, k ≤ N ∧ bv = .int .i64 (bytesTo s ls qs k : Nat) ∧ iv = .int .i64 (k : Int) ∧ (k = 0 ∨ bytesTo s ls qs k ≤ 2097152) ∧ Hid (∀ j, j < k → badB s first ls qs j = false) ∧ Below w.heap.size w wr) (fun _ iv _ => N - (intOf iv).toNat)
    case atStart => exact ⟨0, by omega, rfl, rfl, .inl rfl, Lib.hid (by intro j hj; omega), hb3⟩
    case round =>
      obtain ⟨k, hk, rfl, rfl, hby, hgood, hb⟩ := hrel
      by_cases hlt : k < N
      · obtain ⟨b, o, rfl, hc⟩ := hA (by intro e; have := HN.out; rw [e] at this; simp at this; omega)
        have hlk : k < ls.length := by rw [Hvl.out]; exact hlt
        have hqk : k < qs.length := by rw [Hql.out]; exact hlt
        have hvk' : k < vs.length := by rw [HN.out]; exact hlt
        have hck' : k < css.length := by rw [HM.out]; exact hlt
        obtain ⟨b2, o2, rfl, _⟩ := hB (by
          intro e
          have h3 := hQ.three css[k] (List.getElem_mem hck')
          have := List.flatten_eq_nil_iff.1 e css[k] (List.getElem_mem hck')
          rw [this] at h3; cases h3)
        obtain ⟨Ak, ck, hvk, h1, h2, h3⟩ := hP.2 k vs[k] ls[k] (List.getElem?_eq_getElem hvk') (List.getElem?_eq_getElem hlk)
        obtain ⟨Wk, dk, hqv, h4, h5, h6⟩ := hQ.2 k css[k] qs[k] (List.getElem?_eq_getElem hck') (List.getElem?_eq_getElem hqk)
        have hcell : wr.cell? ⟨b, o + k, none⟩ = some (.slice Ak ls[k].length ck) := by
          have := hc k vs[k] (List.getElem?_eq_getElem hvk')
          rw [hb.cell (p := ⟨b, _, none⟩) (block_lt_of_cell this), this, hvk]
        have hrange : wr.rangeAt b2 (o2 + k * 3) (incCells qs[k].size qs[k].number Wk qs[k].way.length dk) := fun j u hu => by
          have := hB.group hQ.three k hck' (by decide) j u (by rw [hqv]; exact hu)
          rw [hb.cell (p := ⟨b2, _, none⟩) (block_lt_of_cell this), this]
        have hzero : wr.cell? ⟨b2, o2, none⟩ = some (.int .i64 (sz qs)) := by
          have h0 : 0 < css.length := by omega
          have h0' : 0 < qs.length := by omega
          obtain ⟨W0, d0, hq0, _⟩ := hQ.2 0 css[0] qs[0] (List.getElem?_eq_getElem h0) (List.getElem?_eq_getElem h0')
          have := hB.group hQ.three 0 h0 (by decide) 0 (.int .i64 (sz qs)) (by rw [hq0]; simp [incCells, sz, List.getD_eq_getElem?_getD, List.getElem?_eq_getElem h0'])
          simp only [Nat.zero_mul, Nat.add_zero] at this
          rw [hb.cell (p := ⟨b2, _, none⟩) (block_lt_of_cell this), this]
        have Hn := Lib.hid (show (ls.getD k []).length = ls[k].length by rw [List.getD_eq_getElem?_getD, List.getElem?_eq_getElem hlk]; rfl)
        have Hq := Lib.hid (show qs.getD k default = qs[k] by rw [List.getD_eq_getElem?_getD, List.getElem?_eq_getElem hqk]; rfl)
        have hsn := hsl ls[k] (List.getElem_mem hlk)
        have hsm := hsq qs[k] (List.getElem_mem hqk)
        obtain ⟨q, hqq⟩ : ∃ q, q = qs[k] := ⟨_, rfl⟩
        obtain ⟨nk, hnk⟩ : ∃ n, n = ls[k].length := ⟨_, rfl⟩
        rw [← hqq] at hrange Hq hsm h4
        rw [← hnk] at hcell Hn hsn h1
        have Hby := Lib.hid (show bytesTo s ls qs (k + 1) = bytesTo s ls qs k + (12 + nk + 32 * q.way.length) by
          show bytesTo s ls qs k + (12 + (ls.getD k []).length + 32 * (qs.getD k default).way.length) = _
          rw [Hn.out, Hq.out])
        clear hqq hnk hvk hqv h3 h6 hc hlk hqk hvk' hck' h1 h2 h4 h5
        have hbk : bytesTo s ls qs k < 8589934592 := by
          rcases hby with rfl | h
          · show 54 + s.size < _; omega
          · omega
        have Hsz : Hid (3 = (incCells q.size q.number Wk q.way.length dk).length) := Lib.hid rfl
        go_wp2_with (first
          | ((with_reducible refine law_load (.tmp 32) 31 _ Tryd.underlying31 ?_ b2 (o2 + k * 3) ?_ (incCells q.size q.number Wk q.way.length dk) ?_ hrange ?_); (rfl); (rfl); (exact size_inc))
          | (go_at_call 28; refine (rowBytes_any _ Ak nk ck q.size q.number Wk q.way.length dk hsn hsm).mono ?_; rintro e w4 ⟨rfl, hb4⟩))
        have hbw : Below w.heap.size w w4 := hb.trans (hb4.mono hb.size)
        have hcz : ∀ dd os, (Sort.grow (redrawn w4 dd) os).cell? ⟨b2, o2, none⟩ = some (.int .i64 (sz qs)) := fun dd os => cell_regrown (by rw [hb4.cell (p := ⟨b2, _, none⟩) (block_lt_of_cell hzero)]; exact hzero) dd os
        have hc0 : ∀ dd os, (Sort.grow (redrawn w4 dd) os).cell? ⟨b2, o2 + k * 3, none⟩ = some (.int .i64 q.size) := fun dd os => cell_regrown (by have := hrange 0 _ rfl; rw [Nat.add_zero] at this; rw [hb4.cell (p := ⟨b2, _, none⟩) (block_lt_of_cell this)]; exact this) dd os
        have hc1 : ∀ dd os, (Sort.grow (redrawn w4 dd) os).cell? ⟨b2, o2 + k * 3 + 1, none⟩ = some (.int .i64 q.number) := fun dd os => cell_regrown (by have := hrange 1 _ rfl; rw [hb4.cell (p := ⟨b2, _, none⟩) (block_lt_of_cell this)]; exact this) dd os
        have hc2 : ∀ dd os, (Sort.grow (redrawn w4 dd) os).cell? ⟨b2, o2 + k * 3 + 2, none⟩ = some (.slice Wk q.way.length dk) := fun dd os => cell_regrown (by have := hrange 2 _ rfl; rw [hb4.cell (p := ⟨b2, _, none⟩) (block_lt_of_cell this)]; exact this) dd os
        have Hrow := Lib.hid (show rowAt ls qs k = rowB nk q.size q.number q.way.length (sz qs) by unfold rowAt; rw [Hn.out, Hq.out])
        have hbad : badB s first ls qs k = true → reachN s first ls qs = k := fun h => by
          unfold reachN; rw [Hvl.out]; exact find_range _ _ _ hk hgood.out (fun _ => h)
        by_cases hk1 : k = 1000
        · have Hbad := Lib.hid (hbad (by simp [badB, hk1]))
          clear hbad
          have hk1' : ((k : Int) == 1000) = true := by rw [beq_iff_eq]; omega
          refine wp_region_quiet_below (by kernel_rfl) (by kernel_rfl) ?_
          repeat (go_big_quiet_step (fail))
          refine wpQuiet_nil ?_
          rintro w5 ⟨pq, hw5⟩
          have hb5 : Below w4.heap.size w4 w5 := by rw [hw5]; exact below_regrown w4 pq.d pq.os
          clear hw5
          go_wp2
          exact bodyPost_ret (results_tmp rfl _ _ _) rfl ⟨by rw [Hr.out, Hbad.out]; rfl, hbw.trans (hb5.mono hbw.size)⟩
        · have hk1' : ((k : Int) == 1000) = false := by rw [beq_eq_false_iff_ne]; omega
          by_cases hk2 : 2097152 < (bytesTo s ls qs k : Int) + (12 + nk + 32 * q.way.length)
          · have Hbad := Lib.hid (hbad (by unfold badB; rw [Hby.out, decide_eq_true (show 2097152 < bytesTo s ls qs k + (12 + nk + 32 * q.way.length) by omega)]; simp))
            clear hbad
            refine wp_region_quiet_below (by kernel_rfl) (by kernel_rfl) ?_
            repeat (go_big_quiet_step (fail))
            refine wpQuiet_nil ?_
            rintro w5 ⟨pq, hw5⟩
            have hb5 : Below w4.heap.size w4 w5 := by rw [hw5]; exact below_regrown w4 pq.d pq.os
            clear hw5
            go_wp2
            exact bodyPost_ret (results_tmp rfl _ _ _) rfl ⟨by rw [Hr.out, Hbad.out]; rfl, hbw.trans (hb5.mono hbw.size)⟩
          · cases hk3 : rowB nk q.size q.number q.way.length (sz qs) with
            | false =>
              have Hbad := Lib.hid (hbad (by unfold badB; rw [Hrow.out, hk3]; simp))
              clear hbad
              refine wp_region_quiet_below (by kernel_rfl) (by kernel_rfl) ?_
              repeat (go_big_quiet_step (((go_at_call 29; refine Calls.regrown_of (v := .bool false) ((row_any _ Ak nk ck q.size q.number Wk q.way.length dk (sz qs) hsn hsm).mono ?_); rintro e w5 ⟨rfl, hb5⟩; rw [hk3]; exact ⟨rfl, hb5⟩))))
              refine wpQuiet_nil ?_
              rintro w5 ⟨pq, hw5⟩
              have hb5 : Below w4.heap.size w4 w5 := by rw [hw5]; exact below_regrown w4 pq.d pq.os
              clear hw5
              go_wp2
              exact bodyPost_ret (results_tmp rfl _ _ _) rfl ⟨by rw [Hr.out, Hbad.out]; rfl, hbw.trans (hb5.mono hbw.size)⟩
            | true =>
              have hz1 : 1 ≤ sz qs ∧ sz qs ≤ 1099511627776 := by
                unfold rowB inB at hk3
                simp at hk3
                omega
              by_cases hk4 : sz qs - k - 1 < first
              · have Hbad := Lib.hid (hbad (by unfold badB; rw [decide_eq_true hk4]; simp))
                clear hbad
                refine wp_region_quiet_below (by kernel_rfl) (by kernel_rfl) ?_
                repeat (go_big_quiet_step (((go_at_call 29; refine Calls.regrown_of (v := .bool true) ((row_any _ Ak nk ck q.size q.number Wk q.way.length dk (sz qs) hsn hsm).mono ?_); rintro e w5 ⟨rfl, hb5⟩; rw [hk3]; exact ⟨rfl, hb5⟩))))
                refine wpQuiet_nil ?_
                rintro w5 ⟨pq, hw5⟩
                have hb5 : Below w4.heap.size w4 w5 := by rw [hw5]; exact below_regrown w4 pq.d pq.os
                clear hw5
                go_wp2
                exact bodyPost_ret (results_tmp rfl _ _ _) rfl ⟨by rw [Hr.out, Hbad.out]; rfl, hbw.trans (hb5.mono hbw.size)⟩
              · have Hok := Lib.hid (show badB s first ls qs k = (decide (0 < k) && decide (q.number ≤ (qs.getD (k - 1) default).number)) by
                  unfold badB
                  rw [Hby.out, Hrow.out, hk3, decide_eq_false hk1, decide_eq_false (show ¬ 2097152 < bytesTo s ls qs k + (12 + nk + 32 * q.way.length) by omega), decide_eq_false hk4, Hq.out]
                  simp)
                refine wp_region_quiet_below (by kernel_rfl) (by kernel_rfl) ?_
                repeat (go_big_quiet_step (((go_at_call 29; refine Calls.regrown_of (v := .bool true) ((row_any _ Ak nk ck q.size q.number Wk q.way.length dk (sz qs) hsn hsm).mono ?_); rintro e w5 ⟨rfl, hb5⟩; rw [hk3]; exact ⟨rfl, hb5⟩))))
                refine wpQuiet_nil ?_
                rintro w5 ⟨pq, hw5⟩
                have hb5 : Below w4.heap.size w4 w5 := by rw [hw5]; exact below_regrown w4 pq.d pq.os
                clear hw5
                go_wp2
                have hb5w : Below w.heap.size w w5 := hbw.trans (hb5.mono hbw.size)
                clear hcz hc0 hc1 hc2 hbad
                have hcn : w5.cell? ⟨b2, o2 + k * 3 + 1, none⟩ = some (.int .i64 q.number) := by
                  have := hrange 1 _ rfl
                  rw [hb5.cell (p := ⟨b2, _, none⟩) (Nat.lt_of_lt_of_le (block_lt_of_cell this) hb4.size), hb4.cell (p := ⟨b2, _, none⟩) (block_lt_of_cell this)]
                  exact this
                have hprev : ∀ k', k = k' + 1 → ∃ pn, w5.cell? ⟨b2, o2 + k' * 3 + 1, none⟩ = some (.int .i64 pn) ∧ (qs.getD k' default).number = pn := fun k' e => by
                  have hqk' : k' < qs.length := by rw [Hql.out]; omega
                  have hck' : k' < css.length := by rw [HM.out]; omega
                  obtain ⟨Wp, dp, hqp, _⟩ := hQ.2 k' css[k'] qs[k'] (List.getElem?_eq_getElem hck') (List.getElem?_eq_getElem hqk')
                  have := hB.group hQ.three k' hck' (by decide) 1 (.int .i64 qs[k'].number) (by rw [hqp]; rfl)
                  refine ⟨qs[k'].number, ?_, by rw [List.getD_eq_getElem?_getD, List.getElem?_eq_getElem hqk']; rfl⟩
                  rw [hb5w.cell (p := ⟨b2, _, none⟩) (block_lt_of_cell this)]
                  exact this
                clear hrange hzero hcell hA hB hb4 hb5 hbw hb
                by_cases hk5 : k = 0
                · subst hk5
                  have hk5' : decide ((0 : Int) < (0 : Nat)) = false := by decide
                  have Hnx := Lib.hid (show ∀ j, j < 0 + 1 → badB s first ls qs j = false from fun j hj => by
                    obtain rfl : j = 0 := by omega
                    rw [Hok.out]; rfl)
                  go_quiet (fail)
                  go_wp2
                  go_roundw
                  case rel => exact ⟨0 + 1, by omega, by rw [Hby.out]; go_num, by go_num, .inr (by rw [Hby.out]; omega), Hnx, below_drewN hb5w _⟩
                  case measure => simp [intOf]; omega
                · obtain ⟨k', rfl⟩ : ∃ k', k = k' + 1 := ⟨k - 1, by omega⟩
                  obtain ⟨pn, hpc, hpn⟩ := hprev k' rfl
                  clear hprev
                  have hk5' : decide ((0 : Int) < (k' + 1 : Nat)) = true := by rw [decide_eq_true_eq]; omega
                  by_cases hk6 : q.number ≤ pn
                  · have hk6' : decide (q.number ≤ pn) = true := decide_eq_true hk6
                    have Hbad := Lib.hid (show reachN s first ls qs = k' + 1 by
                      unfold reachN; rw [Hvl.out]; exact find_range _ _ _ hk hgood.out (fun _ => by rw [Hok.out, Nat.add_sub_cancel, hpn, hk6']; simp))
                    go_quiet (fail)
                    go_wp2
                    exact bodyPost_ret (results_tmp rfl _ _ _) rfl ⟨by rw [Hr.out, Hbad.out]; rfl, below_drewN hb5w _⟩
                  · have hk6' : decide (q.number ≤ pn) = false := decide_eq_false hk6
                    have Hnx := Lib.hid (show ∀ j, j < k' + 1 + 1 → badB s first ls qs j = false from fun j hj => by
                      rcases Nat.lt_or_ge j (k' + 1) with h | h
                      · exact hgood.out j h
                      · obtain rfl : j = k' + 1 := by omega
                        rw [Hok.out, Nat.add_sub_cancel, hpn, hk6']; simp)
                    go_quiet (fail)
                    go_wp2
                    go_roundw
                    case rel => exact ⟨k' + 1 + 1, by omega, by rw [Hby.out]; go_num, by go_num, .inr (by rw [Hby.out]; omega), Hnx, below_drewN hb5w _⟩
                    case measure => simp [intOf]; omega
      · have hkN : k = N := by omega
        have Hd := Lib.hid (show reachN s first ls qs = N by
          unfold reachN; rw [Hvl.out]; exact find_range _ _ _ (Nat.le_refl _) (by rw [← hkN]; exact hgood.out) (by intro h; omega))
        go_wp2
        exact bodyPost_ret (results_tmp rfl _ _ _) rfl ⟨by rw [Hr.out, Hd.out]; rfl, hb⟩
end Go.Proofs.YtcmponmgaikkfaaDoor
