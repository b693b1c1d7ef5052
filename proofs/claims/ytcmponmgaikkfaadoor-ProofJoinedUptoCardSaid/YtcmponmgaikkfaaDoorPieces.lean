/-
  proof.Pieces: the history cut into pieces, each the longest.
-/
import Derived.Test.YtcmponmgaikkfaaDoorCuts
import Derived.Deep.DeepCutAuto
namespace Go.Proofs.YtcmponmgaikkfaaDoor
open Go.RowKit

theorem inc_cells {w w' : World} {b o : Nat} {css : List (List Value)} {qs : List Inc} (hB : Rd w (some ⟨b, o, none⟩) css.flatten) (hQ : Incs w css qs) (hb : Below w.heap.size w w') (i : Nat) (hc : i < css.length) (hq : i < qs.length) :
    w'.cell? ⟨b, o + i * 3, none⟩ = some (.int .i64 (qs.getD i default).size) ∧ w'.cell? ⟨b, o + i * 3 + 1, none⟩ = some (.int .i64 (qs.getD i default).number) := by
  obtain ⟨Wk, dk, hqv, -, -, -⟩ := hQ.2 i css[i] qs[i] (List.getElem?_eq_getElem hc) (List.getElem?_eq_getElem hq)
  have hr : w'.rangeAt b (o + i * 3) (incCells qs[i].size qs[i].number Wk qs[i].way.length dk) := range_keep (by have := hB.group hQ.three i hc (by decide); rwa [hqv] at this) hb
  have e : qs.getD i default = qs[i] := by rw [List.getD_eq_getElem?_getD, List.getElem?_eq_getElem hq]; rfl
  rw [e]
  exact ⟨hr 0 _ rfl, hr 1 _ rfl⟩
theorem piece_oneCell {w : World} {lo : Nat} {ev pr : Value} {ls : List (List UInt8)} {qs : List Inc} (h : PcMem w lo ev pr ls qs) (s : ByteArray) (first : Int) (before : List UInt8) : ∀ u ∈ pieceCells s first before ev pr, u.oneCell' = true := by
  obtain ⟨vs, css, h1, h2, _⟩ := h
  intro u hu
  simp only [pieceCells, List.mem_append, List.mem_cons, List.not_mem_nil, or_false] at hu
  rcases hu with (rfl | rfl) | hu | rfl | rfl
  · rfl
  · rfl
  · exact oneCell_bvs _ u hu
  · exact (own_oneCell h1).1
  · exact (own_oneCell h2).1
theorem size_string : (Tryd.prog.info? 9).map (·.size) = some 1 := by kernel_rfl
theorem size_int : (Tryd.prog.info? 3).map (·.size) = some 1 := by kernel_rfl
section
variable {P : Program} {ops : Array Oper} {rest : List Oper} {a : Act} {w : World} {Q : Exit → Act → World → Prop} {dst : Option Tmp} {ty : TypeId} {pos : String} {after : Array Edge}
theorem law_build_agg (x : Operand) (t e : TypeId) (ie : TypeInfo) (z : Value) (hu : P.underlying t = some (.slice e)) (hie : P.info? e = some ie) (hz : ie.zero = some z) (xs : List Value) (hx : a.eval x = .agg xs.toArray) (hs : ie.size = xs.length) (hp : 0 < xs.length) (hsm : xs.length ≤ 1000)
    (h : ∀ g w', Blk w' g e xs → w.grownBy w' none → Hid (g = w.heap.size) → wpList P ops Q rest (a.put dst (.slice (some ⟨g, 0, none⟩) 1 1)) w') :
    wpList P ops Q ({ dst, op := .buildSlice t 1 #[(0, x)], type := ty, pos, after, guard := none } :: rest) a w :=
  wpList_plain rfl fun _ hK => op_build_agg x t e ie z hu hie hz xs hx hs hp hsm fun g w' h1 h2 h3 => hK _ _ (h g w' h1 h2 h3)
end
theorem step_facts {width : Int} {s : ByteArray} {first : Int} {before : List UInt8} {ls : List (List UInt8)} {qs : List Inc} {k n : Nat} (hn : n = stepN width s first before ls qs k) (h0 : 0 < n) : 0 ≤ first + k ∧ first + k + n ≤ 1099511627776 := by
  unfold stepN reachL at hn
  split at hn
  · rename_i hb
    obtain ⟨m, rfl⟩ : ∃ m, n = m + 1 := ⟨n - 1, by omega⟩
    have hg := reachN_good (show m < reachN s (first + k) (ls.drop k) (qs.drop k) by omega)
    unfold beginsB at hb
    unfold badB rowAt rowB inB at hg
    simp at hb hg
    omega
  · omega
/-- How proof.Pieces ends. -/
def PcEnd (w : World) (width : Int) (s : ByteArray) (first : Int) (before : List UInt8) (M K : Nat) (ls : List (List UInt8)) (qs : List Inc) (e : Ending) (w' : World) : Prop := Below w.heap.size w w' ∧
  ((e = .returned (.tuple #[.slice none 0 0, .int .i64 170]) ∧ (M ≠ K ∨ beginsB s first before = false ∨ ¬ Rises qs K ∨ ∃ k ps, k < M ∧ Rises qs K ∧ Cuts width s first before ls qs k ps ∧ stepN width s first before ls qs k = 0)) ∨
   (∃ lv ps lo, e = .returned (.tuple #[lv, .int .i64 0]) ∧ M = K ∧ beginsB s first before = true ∧ Rises qs M ∧ Cuts width s first before ls qs M ps ∧ w.heap.size ≤ lo ∧ PsMem w' w.heap.size w'.heap.size lo lv s ps))

set_option maxHeartbeats 4000000 in
set_option maxRecDepth 100000 in
theorem pieces_any (w : World) (htab : Tab w) (width : Int) (s : ByteArray) (hs : s.size < 4294967296) (first : Int) (before : List UInt8) (hbf : before.length = 32) (M K : Nat) (A : Option Addr) (c : Nat) (vs : List Value) (ls : List (List UInt8)) (B : Option Addr) (d : Nat) (css : List (List Value)) (qs : List Inc)
    (hA : Rd w A vs) (hP : Parts w vs ls) (hB : Rd w B css.flatten) (hQ : Incs w css qs) (HN : Hid (vs.length = M)) (HM : Hid (css.length = K)) (hMc : M ≤ c) (hcm : c ≤ maxLen) (hKd : K ≤ d) (hdm : d ≤ maxLen) (hM : M < 4294967296) (hK : K < 4294967296) (hsl : ∀ l ∈ ls, l.length < 4294967296) (hsq : waysLen qs K < 4294967296) :
    Calls Tryd.prog 6 #[.int .i64 width, .string s, .int .i64 first, .agg (bvs before).toArray, .slice A M c, .slice B K d] w (PcEnd w width s first before M K ls qs) := by
  have Hl := Lib.hid (show 32 = (bvs before).length by rw [bvs_length, hbf])
  have hcm' : c ≤ 9223372036854775807 := by simp only [maxLen] at hcm; omega
  have hdm' : d ≤ 9223372036854775807 := by simp only [maxLen] at hdm; omega
  have Hvl := Lib.hid (show ls.length = M from hP.1.symm.trans HN.out)
  have Hql := Lib.hid (show qs.length = K from hQ.1.symm.trans HM.out)
  go_enter Tryd.func6, Tryd.ntmps6
  by_cases hMK : M = K
  · subst hMK
    have h0 : ((M : Int) != (M : Int)) = false := by rw [bne_eq_false_iff_eq]
    cases hbg : beginsB s first before with
    | false =>
      go_wp2_with (first
        | ((with_reducible refine law_box (.tmp 3) 23 (bvs before) ?_ ?_); (rfl); intro g1 w1 hg1 hB1 hr1 hs1)
        | ((with_reducible refine law_load_g ?_ _ Tryd.underlying23 ?_ g1 0 ?_ (bvs before) ?_ hB1.range ?_); (rfl); (rfl); (rfl); (rw [← Hl.out]; exact size_digest))
        | (go_at_call 13; refine (begins_any _ s hs first before hbf).mono ?_; rintro e w2 ⟨rfl, hb2⟩; rw [hbg]))
      have hb1 : Below w.heap.size w w1 := below_of_grown hr1 (Nat.le_refl _) (by simp)
      refine bodyPost_ret (results_tmp2 rfl _ _ _) rfl ?_
      exact ⟨hb1.trans (hb2.mono hb1.size), .inl ⟨rfl, .inr (.inl hbg)⟩⟩
    | true =>
      go_wp2_with (first
        | ((with_reducible refine law_box (.tmp 3) 23 (bvs before) ?_ ?_); (rfl); intro g1 w1 hg1 hB1 hr1 hs1)
        | ((with_reducible refine law_load_g ?_ _ Tryd.underlying23 ?_ g1 0 ?_ (bvs before) ?_ hB1.range ?_); (rfl); (rfl); (rfl); (rw [← Hl.out]; exact size_digest))
        | (go_at_call 13; refine (begins_any _ s hs first before hbf).mono ?_; rintro e w2 ⟨rfl, hb2⟩; rw [hbg]))
      have hb1 : Below w.heap.size w w1 := below_of_grown hr1 (Nat.le_refl _) (by simp)
      have hb02 : Below w.heap.size w w2 := hb1.trans (hb2.mono hb1.size)
      have hB2 := hB1.below hb2 hB1.lt
      have hg1w : w.heap.size ≤ g1 := by rw [hg1.out]; exact Nat.le_refl _
      clear hb1 hb2 hB1 hr1 hs1 hg1
      go_loopw [14] (fun iv wr => ∃ i : Nat, 1 ≤ i ∧ (i ≤ M ∨ i = 1) ∧ iv = .int .i64 (i : Int) ∧ Hid (Rises qs i) ∧ Below w2.heap.size w2 wr) (fun iv _ => M - (intOf iv).toNat)
      case atStart => exact ⟨1, Nat.le_refl _, .inr rfl, rfl, Lib.hid (by intro i h1 h2; omega), Below.refl _ _⟩
      case round =>
        obtain ⟨i, hi1, hiM, rfl, hris, hb⟩ := hrel
        by_cases hlt : i < M
        · have hqi : i < qs.length := by rw [Hql.out]; exact hlt
          have hci : i < css.length := by rw [HM.out]; exact hlt
          obtain ⟨b2, o2, rfl, _⟩ := hB (by
            intro e
            have h3 := hQ.three css[i] (List.getElem_mem hci)
            have := List.flatten_eq_nil_iff.1 e css[i] (List.getElem_mem hci)
            rw [this] at h3; cases h3)
          have hbw : Below w.heap.size w wr := hb02.trans (hb.mono hb02.size)
          obtain ⟨i', rfl⟩ : ∃ i', i = i' + 1 := ⟨i - 1, by omega⟩
          have hcell := inc_cells hB hQ hbw (i' + 1) hci hqi
          have hcell' := inc_cells hB hQ hbw i' (by omega) (by omega)
          have hcell0 := inc_cells hB hQ hbw 0 (by omega) (by omega)
          rw [Nat.zero_mul, Nat.add_zero] at hcell0
          have hnow := hcell.2
          have hsz := hcell.1
          have hpre := hcell'.2
          have hzero : wr.cell? ⟨b2, o2, none⟩ = some (.int .i64 (sz qs)) := hcell0.1
          clear hcell hcell' hcell0
          have hne : (qs.getD (i' + 1) default).size = sz qs → (qs.getD i' default).number < (qs.getD (i' + 1) default).number → Rises qs (i' + 1 + 1) := fun h1 h2 j hj1 hj2 => by
            rcases Nat.lt_or_ge j (i' + 1) with h | h
            · exact hris.out j hj1 h
            · obtain rfl : j = i' + 1 := by omega
              exact ⟨h1, by rw [Nat.add_sub_cancel]; exact h2⟩
          have hno : Rises qs M → (qs.getD (i' + 1) default).size = sz qs ∧ (qs.getD i' default).number < (qs.getD (i' + 1) default).number := fun h => by
            have := h (i' + 1) (by omega) hlt
            rwa [Nat.add_sub_cancel] at this
          have hci' : i' < M := by omega
          clear hqi hci
          generalize (qs.getD (i' + 1) default).size = x at hsz hne hno
          generalize (qs.getD (i' + 1) default).number = y at hnow hne hno
          generalize (qs.getD i' default).number = y' at hpre hne hno
          generalize sz qs = z at hzero hne hno
          by_cases hxz : x = z
          · subst hxz
            have hx1 : (x != x) = false := by rw [bne_eq_false_iff_eq]
            by_cases hyy : y ≤ y'
            · have hy1 : decide (y ≤ y') = true := decide_eq_true hyy
              have Hno := Lib.hid (show ¬ Rises qs M from fun h => by have := (hno h).2; omega)
              clear hne hno hB hA
              go_wp2
              go_quiet (fail)
              go_wp2
              refine bodyPost_ret (results_tmp2 rfl _ _ _) rfl ?_
              exact ⟨below_drewN hbw _, .inl ⟨rfl, .inr (.inr (.inl Hno.out))⟩⟩
            · have hy1 : decide (y ≤ y') = false := decide_eq_false hyy
              have Hn := Lib.hid (hne rfl (by omega))
              clear hne hno hB hA
              go_wp2
              go_quiet (fail)
              go_wp2
              go_roundw
              case rel => exact ⟨i' + 1 + 1, by omega, .inl (by omega), by go_num, Hn, below_drewN hb _⟩
              case measure => simp [intOf]; omega
          · have hx1 : (x != z) = true := by rw [bne_iff_ne]; exact hxz
            have Hno := Lib.hid (show ¬ Rises qs M from fun h => hxz (hno h).1)
            clear hne hno hB hA
            go_wp2
            go_quiet (fail)
            go_wp2
            refine bodyPost_ret (results_tmp2 rfl _ _ _) rfl ?_
            exact ⟨below_drewN hbw _, .inl ⟨rfl, .inr (.inr (.inl Hno.out))⟩⟩
        · have Hris := Lib.hid (show Rises qs M from fun j h1 h2 => hris.out j h1 (by omega))
          have hbw : Below w.heap.size w wr := hb02.trans (hb.mono hb02.size)
          have hBr := hB2.below hb hB2.lt
          clear hris hb hb02 hB2
          have hP0 : Pv w g1 before s (.slice none 0 0) [] [] wr.heap.size wr.heap.size wr := ⟨hBr, World.ownsRow_nil _ _ _ _, Nat.le_refl _, hbw, Nat.le_refl _, hBr.lt, hg1w⟩
          have hlo0 : w.heap.size ≤ wr.heap.size := hbw.size
          clear hbw hBr
          go_wp2
          go_loopw [2, 15, 16] (fun fv lv kv wx => ∃ k ps pvs lo B, k ≤ M ∧ fv = .int .i64 (first + (k : Int)) ∧ kv = .int .i64 (k : Int) ∧ Hid (Cuts width s first before ls qs k ps) ∧ w.heap.size ≤ lo ∧ Hid (∀ p ∈ ps, p.before.length = 32) ∧ Pv w g1 (chainL width before (ls.take k)) s lv ps pvs lo B wx) (fun _ _ kv _ => M - (intOf kv).toNat)
          case atStart => exact ⟨0, [], [], wr.heap.size, wr.heap.size, Nat.zero_le _, by simp, rfl, Lib.hid .nil, hlo0, Lib.hid (by simp), hP0⟩
          case round =>
            clear hP0 hlo0
            obtain ⟨k, ps, pvs, lo, BB, hk, rfl, rfl, hcuts, hlo, h32, hPv⟩ := hrel
            by_cases hlt : k < M
            · have hbl := chainL_length width before hbf (ls.take k)
              obtain ⟨n, hn⟩ : ∃ n, n = stepN width s first before ls qs k := ⟨_, rfl⟩
              obtain ⟨bef, hbef⟩ : ∃ b, b = chainL width before (ls.take k) := ⟨_, rfl⟩
              have Hn := Lib.hid (show reachL s (first + k) bef (ls.drop k) (qs.drop k) = n by rw [hbef, hn]; rfl)
              rw [← hbef] at hbl hPv
              replace hn := Lib.hid hn
              replace hbef := Lib.hid hbef
              have Hl2 := Lib.hid (show 32 = (bvs bef).length by rw [bvs_length, hbl])
              have hA' := (hA.below hPv.drew.be (Nat.le_refl _)).parts_drop k c (by rw [HN.out]; exact hMc)
              have hB' := (hB.below hPv.drew.be (Nat.le_refl _)).incs_drop hQ.three k d (by rw [HM.out]; exact hKd)
              have hP' := (hP.below hPv.drew.be (Nat.le_refl _)).drop k
              have hQ' := (hQ.below hPv.drew.be (Nat.le_refl _)).drop k
              have hwl : ∀ q ∈ qs.drop k, q.way.length < 4294967296 := fun q hq => by
                have := way_le qs q (List.mem_of_mem_drop hq)
                rw [Hql.out] at this
                omega
              have hlk := Lib.hid (stepN_le width s first before ls qs k)
              go_wp2
              refine wp_region_plan [(0, true), (1, true), (2, true), (3, true), (4, true), (5, true), (6, true), (7, true), (8, true), (9, false), (10, false)] 10 (fun wx => Blk wx g1 23 (bvs bef)) (by kernel_rfl) (by kernel_rfl) rfl (by kernel_rfl) (by intro c a d v w h; cases d <;> exact h) hPv.drew.bb ?_
              iterate 2 (refine plan_take rfl rfl ?_; apply Exists.intro; refine ⟨fun w' hS => ?_, ?_⟩; (go_simp; rfl); simp only [List.getElem_toArray, List.getElem_cons_succ, List.getElem_cons_zero, Act.put, List.setIfInBounds_toArray, List.set_cons_succ, List.set_cons_zero])
              refine plan_take rfl rfl ⟨.agg (bvs bef).toArray, fun w' hS => exec_load _ w' (.tmp 9) 23 _ Tryd.underlying23 rfl g1 0 rfl (bvs bef) (by rw [← Hl2.out]; exact size_digest) hS.range, ?_⟩
              simp only [List.getElem_toArray, List.getElem_cons_succ, List.getElem_cons_zero, Act.put, List.setIfInBounds_toArray, List.set_cons_succ, List.set_cons_zero]
              iterate 2 (refine plan_take rfl rfl ?_; apply Exists.intro; refine ⟨fun w' hS => ?_, ?_⟩; (go_simp; rfl); simp only [List.getElem_toArray, List.getElem_cons_succ, List.getElem_cons_zero, Act.put, List.setIfInBounds_toArray, List.set_cons_succ, List.set_cons_zero])
              refine plan_take rfl rfl ⟨.slice (cutA A k c 1) (M - k) (c - k), fun w' hS => exec_from _ w' 24 27 1 Tryd.underlying24 size_bytes (.tmp 70) (.tmp 71) A M c k rfl rfl hk, ?_⟩
              simp only [List.getElem_toArray, List.getElem_cons_succ, List.getElem_cons_zero, Act.put, List.setIfInBounds_toArray, List.set_cons_succ, List.set_cons_zero]
              iterate 2 (refine plan_take rfl rfl ?_; apply Exists.intro; refine ⟨fun w' hS => ?_, ?_⟩; (go_simp; rfl); simp only [List.getElem_toArray, List.getElem_cons_succ, List.getElem_cons_zero, Act.put, List.setIfInBounds_toArray, List.set_cons_succ, List.set_cons_zero])
              refine plan_take rfl rfl ⟨.slice (cutA B k d 3) (M - k) (d - k), fun w' hS => exec_from _ w' 25 31 3 Tryd.underlying25 size_inc (.tmp 73) (.tmp 74) B M d k rfl rfl hk, ?_⟩
              simp only [List.getElem_toArray, List.getElem_cons_succ, List.getElem_cons_zero, Act.put, List.setIfInBounds_toArray, List.set_cons_succ, List.set_cons_zero]
              refine plan_loud rfl rfl ?_
              go_simp
              refine (reach_any _ s hs (first + k) bef hbl (M - k) (cutA A k c 1) (c - k) (vs.drop k) (ls.drop k) (cutA B k d 3) (d - k) (css.drop k) (qs.drop k) hA' hP' hB' hQ' (Lib.hid (by rw [List.length_drop, HN.out])) (Lib.hid (by rw [List.length_drop, HM.out])) (by simp only [maxLen]; omega) (fun l hl => hsl l (List.mem_of_mem_drop hl)) hwl).mono ?_
              rintro e w2 ⟨rfl, hb2⟩
              rw [Hn.out]
              have hPv2 := hPv.drew.below hb2
              refine ⟨hPv2.bb, ?_⟩
              clear hPv hA' hB' hP' hQ' hwl Hn hb2
              refine plan_loud rfl rfl ?_
              go_simp
              refine plan_nil ?_
              by_cases hn0 : n = 0
              · have hn0' : ((n : Int) == 0) = true := by rw [beq_iff_eq, hn0]; rfl
                go_wp2
                refine bodyPost_ret (results_tmp2 rfl _ _ _) rfl ?_
                exact ⟨hPv2.be, .inl ⟨rfl, .inr (.inr (.inr ⟨k, ps, hlt, Hris.out, hcuts.out, hn.out.symm.trans hn0⟩))⟩⟩
              · have hn0' : ((n : Int) == 0) = false := by rw [beq_eq_false_iff_ne]; omega
                go_wp2
                have hkn : k + n ≤ M := by have := hlk.out; rw [← hn.out, Hvl.out] at this; omega
                obtain ⟨kn, He⟩ : ∃ kn, Hid (kn = k + n) := ⟨_, Lib.hid rfl⟩
                have hk1 : k ≤ kn := by rw [He.out]; omega
                have hk2 : kn ≤ M := by rw [He.out]; exact hkn
                have hes : IntKind.i64.wrap ((k : Int) + (n : Int)) = (kn : Int) := by rw [He.out]; rw [IntKind.wrap_i64]; omega
                have hlq : ((ls.drop k).take n).length = n ∧ ((qs.drop k).take n).length = n := by
                  rw [List.length_take, List.length_drop, List.length_take, List.length_drop, Hvl.out, Hql.out]; omega
                have hcutc : ∀ wy, Below w.heap.size w wy → Calls Tryd.prog 15 #[.slice (cutA A k c 1) (kn - k) (c - k), .slice (cutA B k d 3) (kn - k) (d - k)] wy fun e w' => ∃ evv prv, e = .returned (.agg (pieceCells ByteArray.empty 0 (List.replicate 32 0) evv prv).toArray) ∧ Below wy.heap.size wy w' ∧ PcMem w' wy.heap.size evv prv ((ls.drop k).take n) ((qs.drop k).take n) := fun wy hy => by
                  have hknk : kn - k = n := by rw [He.out]; omega
                  rw [hknk]
                  have h3 : ∀ cs ∈ css.drop k, cs.length = 3 := fun cs hcs => hQ.three cs (List.mem_of_mem_drop hcs)
                  have hr := ((hB.below hy (Nat.le_refl _)).incs_drop hQ.three k d (by rw [HM.out]; exact hKd)).take (n * 3)
                  rw [← flatten_take h3] at hr
                  exact pcut_any wy n (cutA A k c 1) (c - k) ((vs.drop k).take n) ((ls.drop k).take n) (cutA B k d 3) (d - k) ((css.drop k).take n) ((qs.drop k).take n)
                    (((hA.below hy (Nat.le_refl _)).parts_drop k c (by rw [HN.out]; exact hMc)).take n) (((hP.below hy (Nat.le_refl _)).drop k).take n) hr (((hQ.below hy (Nat.le_refl _)).drop k).take n)
                    (Lib.hid (by rw [List.length_take, List.length_drop, HN.out]; omega)) (Lib.hid (by rw [List.length_take, List.length_drop, HM.out]; omega)) (by omega) (fun l hl => hsl l (List.mem_of_mem_drop (List.mem_of_mem_take hl)))
                    (Nat.lt_of_le_of_lt (waysLen_cut qs k n M hkn) hsq)
                obtain ⟨i37, hi37, hz37, hs37, hy37⟩ := info_parts info_piece
                have hpl := Lib.hid (fun (ev pr : Value) => pieceCells_length ByteArray.empty 0 (List.replicate 32 0) (by simp) ev pr)
                go_cut [18] (fun pv wx => ∃ gp evv prv, pv = .pointer (some ⟨gp, 0, none⟩) ∧ w2.heap.size ≤ gp ∧ Blk wx gp 37 (pieceCells ByteArray.empty 0 (List.replicate 32 0) evv prv) ∧ PcMem wx w2.heap.size evv prv ((ls.drop k).take n) ((qs.drop k).take n) ∧ Below w2.heap.size w2 wx)
                case first =>
                  --[[
                  refine wp_region_fork [0, 1, 2, 3, 4, 5, 6, 7, 8, 9, 10, 11] 12 13 [(13, false), (14, false)] [(12, false), (14, false)] 14 (fun _ => True) (by kernel_rfl) (by kernel_rfl) rfl rfl (by kernel_rfl) (by intro c a d v w h; cases d <;> exact h) trivial ?_
                  iterate 5 (refine pre_take rfl rfl ?_; apply Exists.intro; refine ⟨fun w' hS => ?_, ?_⟩; (go_simp; rfl); simp only [List.getElem_toArray, List.getElem_cons_succ, List.getElem_cons_zero, Act.put, List.setIfInBounds_toArray, List.set_cons_succ, List.set_cons_zero])
                  refine pre_take rfl rfl ⟨.slice (cutA A k c 1) (kn - k) (c - k), fun w' hS => exec_fromto _ w' 24 27 1 Tryd.underlying24 size_bytes (.tmp 79) (.tmp 80) (.tmp 83) A M c k kn rfl rfl rfl hk1 (Nat.le_trans hk2 hMc), ?_⟩
                  simp only [List.getElem_toArray, List.getElem_cons_succ, List.getElem_cons_zero, Act.put, List.setIfInBounds_toArray, List.set_cons_succ, List.set_cons_zero]
                  iterate 5 (refine pre_take rfl rfl ?_; apply Exists.intro; refine ⟨fun w' hS => ?_, ?_⟩; (go_simp; rfl); simp only [List.getElem_toArray, List.getElem_cons_succ, List.getElem_cons_zero, Act.put, List.setIfInBounds_toArray, List.set_cons_succ, List.set_cons_zero])
                  refine pre_take rfl rfl ⟨.slice (cutA B k d 3) (kn - k) (d - k), fun w' hS => exec_fromto _ w' 25 31 3 Tryd.underlying25 size_inc (.tmp 85) (.tmp 86) (.tmp 89) B M d k kn rfl rfl rfl hk1 (Nat.le_trans hk2 hKd), ?_⟩
                  simp only [List.getElem_toArray, List.getElem_cons_succ, List.getElem_cons_zero, Act.put, List.setIfInBounds_toArray, List.set_cons_succ, List.set_cons_zero]
                  refine pre_nil ⟨?_, ?_⟩
                  · refine plan_loud rfl rfl ?_
                    go_simp
                    refine (hcutc _ hPv2.drew.be).mono ?_
                    rintro e w3 ⟨evv, prv, rfl, hb3, hm3⟩
                    refine plan_loud rfl rfl ?_
                    refine op_alloc 37 i37 _ hi37 hz37 (pieceCells ByteArray.empty 0 (List.replicate 32 0) (.slice none 0 0) (.slice none 0 0)) rfl ?_
                    intro gp w4 hgp hB4 hg4 _
                    refine ⟨.inr (.inr trivial), ?_⟩
                    have hm4 := hm3.grown hg4 (aside_none _ _)
                    simp only [Act.put, List.setIfInBounds_toArray, List.set_cons_succ, List.set_cons_zero]
                    refine plan_loud rfl rfl ?_
                    refine op_store (.tmp 18) (.tmp 91) 37 gp 0 rfl (pieceCells ByteArray.empty 0 (List.replicate 32 0) evv prv) rfl (by rw [hpl.out]; exact size_piece) 37 _ hB4 (by rw [hpl.out, hpl.out]; decide) (piece_oneCell hm4 _ _ _) ?_
                    intro w5 hB5 hg5 _
                    rw [lay_all _ _ (by rw [hpl.out, hpl.out])] at hB5
                    have hm5 := hm4.grown hg5 (fun g e => .inr (blk_typed hB4 g e))
                    have hgw : w2.heap.size ≤ gp := by rw [hgp.out]; exact hb3.size
                    have hb3 : Below w2.heap.size w2 w3 := (Below.refl _ _).drew.trans hb3
                    have hb5 : Below w2.heap.size w2 w5 := (hb3.trans (below_of_grown hg4 hb3.size (by simp))).trans (below_of_grown hg5 (Nat.le_trans hb3.size hg4.size) (fun g e => by injection e with e; rw [← e]; exact hgw))
                    refine ⟨.inr (.inl rfl), plan_nil ?_⟩
                    go_wp2
                    go_meet
                    exact ⟨gp, evv, prv, rfl, hgw, hB5, hm5, hb5⟩
                  · refine plan_loud rfl rfl ?_
                    refine op_alloc 37 i37 _ hi37 hz37 (pieceCells ByteArray.empty 0 (List.replicate 32 0) (.slice none 0 0) (.slice none 0 0)) rfl ?_
                    intro gp w3 hgp hB3 hg3 _
                    refine ⟨.inr (.inr trivial), ?_⟩
                    have hgw : w2.heap.size ≤ gp := by rw [hgp.out]; exact Nat.le_refl _
                    have hb3 : Below w2.heap.size w2 w3 := (Below.refl _ _).drew.trans (below_of_grown hg3 (Nat.le_refl _) (by simp))
                    simp only [Act.put, List.setIfInBounds_toArray, List.set_cons_succ, List.set_cons_zero]
                    refine plan_loud rfl rfl ?_
                    go_simp
                    refine (hcutc _ (hPv2.be.trans (hb3.mono hPv2.be.size))).mono ?_
                    rintro e w4 ⟨evv, prv, rfl, hb4, hm3⟩
                    have hm4 := hm3.mono hb3.size
                    have hB4 := hB3.below hb4 hB3.lt
                    refine plan_loud rfl rfl ?_
                    refine op_store (.tmp 18) (.tmp 91) 37 gp 0 rfl (pieceCells ByteArray.empty 0 (List.replicate 32 0) evv prv) rfl (by rw [hpl.out]; exact size_piece) 37 _ hB4 (by rw [hpl.out, hpl.out]; decide) (piece_oneCell hm4 _ _ _) ?_
                    intro w5 hB5 hg5 _
                    rw [lay_all _ _ (by rw [hpl.out, hpl.out])] at hB5
                    have hm5 := hm4.grown hg5 (fun g e => .inr (blk_typed hB4 g e))
                    have hb4' : Below w2.heap.size w2 w4 := hb3.trans (hb4.mono hb3.size)
                    have hb5 : Below w2.heap.size w2 w5 := hb4'.trans (below_of_grown hg5 hb4'.size (fun g e => by injection e with e; rw [← e]; exact hgw))
                    refine ⟨.inr (.inl rfl), plan_nil ?_⟩
                    go_wp2
                    go_meet
                    exact ⟨gp, evv, prv, rfl, hgw, hB5, hm5, hb5⟩
                  --]]
                case rest =>
                  obtain ⟨gp, evv, prv, rfl, hgp, hBp, hmp, hbc⟩ := hcut
                  have hPc := hPv2.below hbc
                  have hlv : u15.ownBlock ≠ some gp := fun e => by have := (hPv2.row.lt gp e).2; omega
                  have hgw : w.heap.size ≤ gp := Nat.le_trans hPv2.be.size hgp
                  have hBB := hPv2.hB
                  have hb2 := hPv2.be
                  have hcsz := hbc.size
                  clear hPv2 hcutc hbc
                  go_wp2
                  refine wp_region_plan [(0, true), (1, true), (2, true), (3, true), (4, false), (5, true), (6, false), (7, true), (8, false)] 8 (fun wx => Blk wx g1 23 (bvs bef)) (by kernel_rfl) (by kernel_rfl) rfl (by kernel_rfl) (by intro c a d v w h; cases d <;> exact h) hPc.drew.bb ?_
                  iterate 2 (refine plan_take rfl rfl ?_; apply Exists.intro; refine ⟨fun w' hS => ?_, ?_⟩; (go_simp; rfl); simp only [List.getElem_toArray, List.getElem_cons_succ, List.getElem_cons_zero, Act.put, List.setIfInBounds_toArray, List.set_cons_succ, List.set_cons_zero])
                  refine plan_take rfl rfl ⟨.agg (bvs bef).toArray, fun w' hS => exec_load _ w' (.tmp 9) 23 _ Tryd.underlying23 rfl g1 0 rfl (bvs bef) (by rw [← Hl2.out]; exact size_digest) hS.range, ?_⟩
                  simp only [List.getElem_toArray, List.getElem_cons_succ, List.getElem_cons_zero, Act.put, List.setIfInBounds_toArray, List.set_cons_succ, List.set_cons_zero]
                  iterate 1 (refine plan_take rfl rfl ?_; apply Exists.intro; refine ⟨fun w' hS => ?_, ?_⟩; (go_simp; rfl); simp only [List.getElem_toArray, List.getElem_cons_succ, List.getElem_cons_zero, Act.put, List.setIfInBounds_toArray, List.set_cons_succ, List.set_cons_zero])
                  refine plan_loud rfl rfl ?_
                  refine op_storeCell (.tmp 95) (.tmp 92) 9 gp 0 rfl (.string s) rfl rfl rfl size_string 37 _ hBp.drew (by rw [hpl.out]; decide) ?_
                  intro w3 hB3 hg3 _
                  rw [piece_set_name] at hB3
                  have hP3 := hPc.drew.side hg3 hBp.drew hlv hgw
                  have hm3 := (hmp.grown (grown_drew (grown_refl wc none)) (aside_none _ _)).grown hg3 (fun g e => .inr (blk_typed hBp g e))
                  refine ⟨.inr (.inr hP3.bb), ?_⟩
                  clear hPc hmp hBp
                  simp only [Act.put]
                  iterate 1 (refine plan_take rfl rfl ?_; apply Exists.intro; refine ⟨fun w' hS => ?_, ?_⟩; (go_simp; rfl); simp only [List.getElem_toArray, List.getElem_cons_succ, List.getElem_cons_zero, Act.put, List.setIfInBounds_toArray, List.set_cons_succ, List.set_cons_zero])
                  refine plan_loud rfl rfl ?_
                  refine op_storeCell (.tmp 96) (.tmp 93) 3 gp 1 rfl (.int .i64 (first + (k : Int))) rfl rfl rfl size_int 37 _ hB3 (by rw [pieceCells_length _ _ _ (by simp)]; decide) ?_
                  intro w4 hB4 hg4 _
                  rw [piece_set_first] at hB4
                  have hP4 := hP3.side hg4 hB3 hlv hgw
                  have hm4 := hm3.grown hg4 (fun g e => .inr (blk_typed hB3 g e))
                  refine ⟨.inr (.inr hP4.bb), ?_⟩
                  clear hP3 hm3
                  simp only [Act.put]
                  iterate 1 (refine plan_take rfl rfl ?_; apply Exists.intro; refine ⟨fun w' hS => ?_, ?_⟩; (go_simp; rfl); simp only [List.getElem_toArray, List.getElem_cons_succ, List.getElem_cons_zero, Act.put, List.setIfInBounds_toArray, List.set_cons_succ, List.set_cons_zero])
                  refine plan_loud rfl rfl ?_
                  refine op_store (.tmp 97) (.tmp 94) 23 gp 2 rfl (bvs bef) rfl (by rw [← Hl2.out]; exact size_digest) 37 _ hB4 (by rw [pieceCells_length _ _ _ (by simp), ← Hl2.out]; decide) (oneCell_bvs _) ?_
                  intro w5 hB5 hg5 _
                  rw [piece_lay_before _ _ _ _ (by simp) hbl] at hB5
                  have hP5 := hP4.side hg5 hB4 hlv hgw
                  have hm5 := hm4.grown hg5 (fun g e => .inr (blk_typed hB4 g e))
                  refine ⟨.inr (.inl rfl), plan_nil ?_⟩
                  have hsz5 : w2.heap.size ≤ w5.heap.size := Nat.le_trans hcsz (Nat.le_trans hg3.size (Nat.le_trans hg4.size hg5.size))
                  clear hP4 hm4 hB3 hB4 hg3 hg4 hg5 hb2 hcsz
                  have hcl := pieceCells_length s (first + k) bef hbl evv prv
                  have Hcl := Lib.hid hcl
                  clear hcl
                  have h1c := piece_oneCell hm5 s (first + k) bef
                  obtain ⟨xs, hxs⟩ : ∃ xs, xs = pieceCells s (first + k) bef evv prv := ⟨_, rfl⟩
                  replace hxs := Lib.hid hxs
                  rw [← hxs.out] at hB5 Hcl h1c
                  have hpn := hcuts.out.le
                  have hzc := Lib.hid (show (Value.agg (pieceCells ByteArray.empty 0 (List.replicate 32 0) (.slice none 0 0) (.slice none 0 0)).toArray).cells.size = 36 from hpl.out _ _)
                  go_wp2_with (first
                    | ((with_reducible refine law_load_g ?_ _ Tryd.underlying37 ?_ gp 0 ?_ xs ?_ hB5.range ?_); (rfl); (rfl); (rfl); (rw [Hcl.out]; exact size_piece))
                    | ((with_reducible refine law_build_agg (.tmp 99) 32 37 i37 _ Tryd.underlying32 hi37 hz37 xs ?_ ?_ ?_ ?_ ?_); (rfl); (rw [Hcl.out]; exact hs37); (rw [Hcl.out]; decide); (rw [Hcl.out]; decide); intro g6 w6 hB6 hg6 _; have hP6 := hP5.none hg6; have hm6 := hm5.grown hg6 (aside_none _ _); have hrd6 : Rd w6 (some ⟨g6, 0, none⟩) xs := fun _ => ⟨g6, 0, rfl, hB6.range⟩)
                    | ((with_reducible refine law_append (.tmp 98) (.tmp 100) 32 w.heap.size 37 i37 _ 36 104 Tryd.underlying32 hi37 hz37 hs37 hy37 ?_ ?_ u15 ps.length _ ?_ hP6.row (some ⟨g6, 0, none⟩) 1 1 xs ?_ ?_ hrd6 h1c ?_ ?_ ?_ ?_); (exact hzc.out); (decide); (rfl); (rfl); (rw [Hcl.out, Nat.one_mul]); (simp only [maxLen]; omega); (omega); (exact hP6.be.size); intro lv7 w7 hown7 hg7 hr7))
                  have hP7 := hP6.snoc (v := (evv, prv)) (p := ⟨first + k, bef, (ls.drop k).take n, (qs.drop k).take n⟩) hBB hm6 hg7 (by rw [hxs.out] at hown7; exact hown7) (Nat.le_trans hsz5 hg6.size)
                  clear hP6 hm6 hown7 hg7 hr7 hrd6 hB6 hg6 hP5 hm5 hB5 h1c hxs Hcl hzc
                  obtain ⟨b, o, rfl, hcA⟩ := hA (by intro e; have := HN.out; rw [e] at this; simp at this; omega)
                  simp only [Option.map_some, add_none]
                  have hknn := Lib.hid (show kn - k = n by rw [He.out]; omega)
                  rw [hknn.out]
                  have hfn := step_facts (n := n) hn.out (by omega)
                  have hfs : IntKind.i64.wrap (first + (k : Int) + (n : Int)) = first + (kn : Int) := by rw [He.out, IntKind.wrap_i64]; omega
                  rw [hbef.out] at hP7
                  go_loopw [109] (fun jv wx => ∃ j : Nat, j ≤ n ∧ jv = .int .i64 (j : Int) ∧ Pv w g1 (chainL width before (ls.take (k + j))) s lv7 (ps ++ [⟨first + k, chainL width before (ls.take k), (ls.drop k).take n, (qs.drop k).take n⟩]) (pvs ++ [(evv, prv)]) lo w7.heap.size wx) (fun jv _ => n - (intOf jv).toNat)
                  case atStart => exact ⟨0, Nat.zero_le _, rfl, hP7⟩
                  case round =>
                    clear hP7
                    obtain ⟨j, hj, rfl, hPj⟩ := hrel
                    by_cases hjn : j < n
                    · have hlk' : k + j < ls.length := by rw [Hvl.out]; omega
                      have hvk' : k + j < vs.length := by rw [HN.out]; omega
                      obtain ⟨Ak, ck, hvk, h1, h2, h3⟩ := hP.2 (k + j) vs[k + j] ls[k + j] (List.getElem?_eq_getElem hvk') (List.getElem?_eq_getElem hlk')
                      have hce : wr.cell? ⟨b, o + k + j, none⟩ = some (.slice Ak ls[k + j].length ck) := by
                        have := hcA (k + j) vs[k + j] (List.getElem?_eq_getElem hvk')
                        rw [hvk, ← Nat.add_assoc] at this
                        rw [hPj.be.cell (p := ⟨b, _, none⟩) (block_lt_of_cell this)]
                        exact this
                      have hch := chainL_succ width before ls (k + j) hlk'
                      have hsn := hsl ls[k + j] (List.getElem_mem hlk')
                      obtain ⟨l, hll⟩ : ∃ l, l = ls[k + j] := ⟨_, rfl⟩
                      rw [← hll] at hce hch h1 h3 hsn
                      have hcl := chainL_length width before hbf (ls.take (k + j))
                      obtain ⟨bj, hbj⟩ : ∃ bj, bj = chainL width before (ls.take (k + j)) := ⟨_, rfl⟩
                      rw [← hbj] at hch hPj hcl
                      replace hch := Lib.hid hch
                      have hbl2 := ofL_length width 2 [bj, ofL width 0 [l]]
                      have hll2 := ofL_length width 0 [l]
                      have Hj := Lib.hid (show 32 = (bvs bj).length by rw [bvs_length, hcl])
                      have Hj2 := Lib.hid (show 32 = (bvs (ofL width 2 [bj, ofL width 0 [l]])).length by rw [bvs_length, hbl2])
                      clear hll hbj hvk hlk' hvk'
                      go_wp2
                      refine wp_region_plan [(0, true), (1, true), (2, true), (3, true), (4, false), (5, false), (6, false)] 6 (fun wx => Blk wx g1 23 (bvs bj)) (by kernel_rfl) (by kernel_rfl) rfl (by kernel_rfl) (by intro c a d v w h; cases d <;> exact h) hPj.drew.bb ?_
                      iterate 1 (refine plan_take rfl rfl ?_; apply Exists.intro; refine ⟨fun w' hS => ?_, ?_⟩; (go_simp; rfl); simp only [List.getElem_toArray, List.getElem_cons_zero, Act.put, List.setIfInBounds_toArray, List.set_cons_succ, List.set_cons_zero])
                      refine plan_take rfl rfl ⟨.agg (bvs bj).toArray, fun w' hS => exec_load _ w' (.tmp 9) 23 _ Tryd.underlying23 rfl g1 0 rfl (bvs bj) (by rw [← Hj.out]; exact size_digest) hS.range, ?_⟩
                      simp only [List.getElem_toArray, List.getElem_cons_succ, List.getElem_cons_zero, Act.put, List.setIfInBounds_toArray, List.set_cons_succ, List.set_cons_zero]
                      iterate 2 (refine plan_take rfl rfl ?_; apply Exists.intro; refine ⟨fun w' hS => ?_, ?_⟩; (go_simp; rfl); simp only [List.getElem_toArray, List.getElem_cons_succ, List.getElem_cons_zero, Act.put, List.setIfInBounds_toArray, List.set_cons_succ, List.set_cons_zero])
                      refine plan_loud rfl rfl ?_
                      go_simp
                      refine (leaf_any _ width Ak l.length ck l ⟨Ak, ck, rfl, h1, h2, h3.below hPj.drew.be (Nat.le_refl _)⟩ (by omega) (tab_below htab hPj.drew.be (Nat.le_refl _))).mono ?_
                      rintro e w8 ⟨rfl, hb8⟩
                      have hP8 := hPj.drew.below hb8
                      refine ⟨hP8.bb, ?_⟩
                      refine plan_loud rfl rfl ?_
                      go_simp
                      refine (link_any _ width bj (ofL width 0 [l]) hcl hll2 (tab_below htab hP8.be (Nat.le_refl _))).mono ?_
                      rintro e w9 ⟨rfl, hb9⟩
                      have hP9 := hP8.below hb9
                      refine ⟨hP9.bb, ?_⟩
                      refine plan_loud rfl rfl ?_
                      refine op_store (.tmp 9) (.tmp 118) 23 g1 0 rfl (bvs (ofL width 2 [bj, ofL width 0 [l]])) rfl (by rw [← Hj2.out]; exact size_digest) 23 (bvs bj) hP9.bb (by rw [← Hj2.out, ← Hj.out]; decide) (oneCell_bvs _) ?_
                      intro w10 hB10 hg10 _
                      rw [lay_all _ _ (by rw [← Hj2.out, ← Hj.out])] at hB10
                      have hP10 := hP9.chain hg10 hB10
                      refine ⟨.inr (.inl rfl), plan_nil ?_⟩
                      rw [← hch.out] at hP10
                      clear hP8 hP9 hPj hB10 hg10 hb8 hb9
                      go_wp2
                      go_roundw
                      case rel => exact ⟨j + 1, by omega, by go_num, hP10⟩
                      case measure => simp [intOf]; omega
                    · have hjn' : j = n := by omega
                      subst hjn'
                      have hcut' : Cuts width s first before ls qs kn (ps ++ [⟨first + k, chainL width before (ls.take k), (ls.drop k).take j, (qs.drop k).take j⟩]) := by
                        have h := hcuts.out.snoc (by rw [Hvl.out]; exact hlt) (by rw [← hn.out]; omega)
                        rw [← hn.out] at h
                        rw [He.out]
                        exact h
                      replace hcut' := Lib.hid hcut'
                      have h32' := Lib.hid (show ∀ p ∈ ps ++ [(⟨first + k, chainL width before (ls.take k), (ls.drop k).take j, (qs.drop k).take j⟩ : Pc)], p.before.length = 32 from fun p hp => by
                        rcases List.mem_append.1 hp with h | h
                        · exact h32.out p h
                        · rw [List.mem_singleton.1 h]; exact chainL_length width before hbf _)
                      rw [← He.out] at hPj
                      go_wp2
                      go_roundw
                      case rel => exact ⟨kn, _, _, lo, w7.heap.size, hk2, rfl, rfl, hcut', hlo, h32', hPj⟩
                      case measure => have := He.out; simp [intOf]; omega
            · have hkM : k = M := by omega
              have hcc : Cuts width s first before ls qs M ps := by rw [← hkM]; exact hcuts.out
              replace hcc := Lib.hid hcc
              go_wp2
              refine bodyPost_ret (results_tmp2 rfl _ _ _) rfl ?_
              exact ⟨hPv.be, .inr ⟨_, ps, lo, rfl, rfl, hbg, Hris.out, hcc.out, hlo, pvs, hPv.row, hPv.mem.monoB hPv.hB, h32.out⟩⟩
  · have h0 : ((M : Int) != (K : Int)) = true := by rw [bne_iff_ne]; omega
    go_wp2_with (first
      | ((with_reducible refine law_box (.tmp 3) 23 (bvs before) ?_ ?_); (rfl); intro g1 w1 hg1 hB1 hr1 hs1))
    have hb1 : Below w.heap.size w w1 := below_of_grown hr1 (Nat.le_refl _) (by simp)
    exact bodyPost_ret (results_tmp2 rfl _ _ _) rfl ⟨hb1, .inl ⟨rfl, .inl hMK⟩⟩
end Go.Proofs.YtcmponmgaikkfaaDoor
