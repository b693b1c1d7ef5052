/-
  proof.cut: a piece of copies of events and proofs.
-/
import Derived.Test.YtcmponmgaikkfaaDoorPw
namespace Go.Proofs.YtcmponmgaikkfaaDoor
open Go.RowKit

set_option maxHeartbeats 4000000 in
set_option maxRecDepth 100000 in
theorem pcut_any (w : World) (N : Nat) (A : Option Addr) (c : Nat) (vs : List Value) (ls : List (List UInt8)) (B : Option Addr) (d : Nat) (css : List (List Value)) (qs : List Inc)
    (hA : Rd w A vs) (hP : Parts w vs ls) (hB : Rd w B css.flatten) (hQ : Incs w css qs) (HN : Hid (vs.length = N)) (HM : Hid (css.length = N)) (hN : N < 4294967296) (hsl : ∀ l ∈ ls, l.length < 4294967296) (hsq : waysLen qs N < 4294967296) :
    Calls Tryd.prog 15 #[.slice A N c, .slice B N d] w fun e w' => ∃ evv prv, e = .returned (.agg (pieceCells ByteArray.empty 0 (List.replicate 32 0) evv prv).toArray) ∧ Below w.heap.size w w' ∧ PcMem w' w.heap.size evv prv ls qs := by
  obtain ⟨i37, hi37, hz37, hs37, _⟩ := info_parts info_piece
  obtain ⟨i31, hi31, hz31, hs31, _⟩ := info_parts info_inc
  have Hvl := Lib.hid (show ls.length = N from hP.1.symm.trans HN.out)
  have Hql := Lib.hid (show qs.length = N from hQ.1.symm.trans HM.out)
  go_enter Tryd.func15, Tryd.ntmps15
  have Hp := pieceCells_length ByteArray.empty 0 (List.replicate 32 0) (by simp) (.slice none 0 0) (.slice none 0 0)
  go_wp2_with (first
    | ((with_reducible refine law_alloc (dst := some 4) 37 i37 _ hi37 hz37 (pieceCells ByteArray.empty 0 (List.replicate 32 0) (.slice none 0 0) (.slice none 0 0)) ?_ ?_); (rfl); intro gr w1 hgr hBr hr1 hs1)
    | ((with_reducible refine law_alloc (dst := some 5) 37 i37 _ hi37 hz37 (pieceCells ByteArray.empty 0 (List.replicate 32 0) (.slice none 0 0) (.slice none 0 0)) ?_ ?_); (rfl); intro gp w2 hgp hBp hr2 hs2))
  have hb1 : Below w.heap.size w w1 := below_of_grown hr1 (Nat.le_refl _) (by simp)
  have hb2 : Below w.heap.size w w2 := hb1.trans ((below_of_grown hr2 (Nat.le_refl _) (by simp)).mono hb1.size)
  have hBr2 := hBr.grown hr2 (by simp)
  have hgr0 : w.heap.size ≤ gr := by rw [hgr.out]; exact Nat.le_refl _
  have hgp0 : gr < gp := by rw [hgp.out]; exact hBr.lt
  clear hBr hr1 hr2 hs1 hs2 hgr hgp hb1
  go_loopw [6, 15] (fun tv iv wr => ∃ k : Nat, k ≤ N ∧ tv = .int .i64 (waysLen qs k : Nat) ∧ iv = .int .i64 (k : Int) ∧ w2.grownBy wr none) (fun _ iv _ => N - (intOf iv).toNat)
  case atStart => exact ⟨0, by omega, rfl, rfl, grown_refl _ _⟩
  case round =>
    obtain ⟨k, hk, rfl, rfl, hg⟩ := hrel
    by_cases hlt : k < N
    · have hqk : k < qs.length := by rw [Hql.out]; exact hlt
      have hck' : k < css.length := by rw [HM.out]; exact hlt
      obtain ⟨b2, o2, rfl, _⟩ := hB (by
        intro e
        have h3 := hQ.three css[k] (List.getElem_mem hck')
        have := List.flatten_eq_nil_iff.1 e css[k] (List.getElem_mem hck')
        rw [this] at h3; cases h3)
      obtain ⟨Wk, dk, hqv, -, -, -⟩ := hQ.2 k css[k] qs[k] (List.getElem?_eq_getElem hck') (List.getElem?_eq_getElem hqk)
      have hbw : Below w.heap.size w wr := hb2.trans ((below_of_grown hg (Nat.le_refl _) (by simp)).mono hb2.size)
      have hrange : wr.rangeAt b2 (o2 + k * 3) (incCells qs[k].size qs[k].number Wk qs[k].way.length dk) := range_keep (by have := hB.group hQ.three k hck' (by decide); rwa [hqv] at this) hbw
      have Hq : qs.getD k default = qs[k] := by rw [List.getD_eq_getElem?_getD, List.getElem?_eq_getElem hqk]; rfl
      have Hw := Lib.hid (show waysLen qs (k + 1) = waysLen qs k + qs[k].way.length by show _ + _ = _; rw [Hq])
      have hle := waysLen_mono qs (show k + 1 ≤ N by omega)
      rw [Hw.out] at hle
      obtain ⟨q, hqq⟩ : ∃ q, q = qs[k] := ⟨_, rfl⟩
      rw [← hqq] at hrange Hw hle
      clear hqq hqv Hq hqk hck'
      go_wp2_with (first
        | ((with_reducible refine law_load (.tmp 17) 31 _ Tryd.underlying31 ?_ b2 (o2 + k * 3) ?_ (incCells q.size q.number Wk q.way.length dk) ?_ hrange ?_); (rfl); (rfl); (exact size_inc))
        | ((with_reducible refine law_alloc (dst := some 8) 31 i31 _ hi31 hz31 (incCells 0 0 none 0 0) ?_ ?_); (rfl); intro g8 w3 hg8 hB8 hr8 hs8)
        | ((with_reducible refine law_store (.tmp 8) (.tmp 18) 31 g8 0 ?_ (incCells q.size q.number Wk q.way.length dk) ?_ ?_ 31 (incCells 0 0 none 0 0) hB8 ?_ (inc_oneCell _ _ _ _ _) ?_); (rfl); (rfl); (exact size_inc); (exact Nat.le_refl 3); intro w4 hB4 hr4 hs4; rw [lay_all _ _ (show (incCells q.size q.number Wk q.way.length dk).length = (incCells 0 0 none 0 0).length from rfl)] at hB4; have h42 : w4.cell? ⟨g8, 2, none⟩ = some (.slice Wk q.way.length dk) := (hB4.cell 2).trans rfl))
      go_roundw
      case rel => exact ⟨k + 1, by omega, by rw [Hw.out]; go_num, by go_num, grown_trans hg (grown_skip hr8 hr4 (by rw [hg8.out]; exact Nat.le_refl _))⟩
      case measure => simp [intOf]; omega
    · have hkN : N = k := by omega
      subst hkN
      obtain ⟨i23, hi23, hz23, hs23, hy23⟩ := info_parts info_digest
      go_wp2_with (first
        | ((with_reducible refine law_make (.const (.int .i64 0)) (.tmp 25) 29 23 i23 _ 32 32 Tryd.underlying29 hi23 hz23 hs23 hy23 0 (waysLen qs N) ?_ ?_ ?_ ?_ ?_ ?_); (rfl); (rfl); (omega); (omega); (omega); intro gw w3 cw hgw hcl hBw hr3 hs3))
      obtain ⟨i27, hi27, hz27, hs27, hy27⟩ := info_parts info_b27
      obtain ⟨i31', hi31', hz31', hs31', hy31⟩ := info_parts info_inc
      obtain ⟨i5, hi5, hz5, hs5, hy5⟩ := info_parts info_b8
      have h32 : ∀ q ∈ qs, ∀ d ∈ q.way, d.length = 32 := incs_ways hQ
      have hbr : Below w.heap.size w wr := hb2.trans ((below_of_grown hg (Nat.le_refl _) (by simp)).mono hb2.size)
      have hgw0 : gp < gw := by rw [hgw.out]; exact Nat.lt_of_lt_of_le hBp.lt hg.size
      have hC : Cv w.heap.size gw gp gr w cw (pieceCells ByteArray.empty 0 (List.replicate 32 0) (.slice none 0 0) (.slice none 0 0)) (pieceCells ByteArray.empty 0 (List.replicate 32 0) (.slice none 0 0) (.slice none 0 0)) (.slice none 0 0) 0 [] (.slice none 0 0) 0 [] [] [] w3 :=
        ⟨hBw, (hBp.grown hg (by simp)).grown hr3 (by simp), (hBr2.grown hg (by simp)).grown hr3 (by simp), World.ownsRow_nil _ _ _ _, World.ownsRow_nil _ _ _ _, ⟨rfl, by simp⟩, hbr.trans (below_of_grown hr3 hbr.size (by simp)), Nat.le_refl _, by omega, by omega, by omega⟩
      clear hgw hs3 hr3 hBw hbr hg hBr2 hBp hb2
      go_loopw [9, 29] (fun sv iv wr => ∃ k : Nat, k ≤ N ∧ sv = .slice (some ⟨gw, 0, none⟩) (waysLen qs k) (waysLen qs N) ∧ iv = .int .i64 (k : Int) ∧ ∃ evv prv vs' post, Hid (post.length = (waysLen qs N - waysLen qs k) * 32) ∧ Cv w.heap.size gw gp gr w (wayCells qs k ++ post) (pieceCells ByteArray.empty 0 (List.replicate 32 0) evv prv) (pieceCells ByteArray.empty 0 (List.replicate 32 0) (.slice none 0 0) (.slice none 0 0)) evv k vs' prv k (incCut gw qs k).flatten vs' (ls.take k) wr) (fun _ iv _ => N - (intOf iv).toNat)
      case atStart => exact ⟨0, by omega, rfl, rfl, _, _, [], cw, Lib.hid hcl, hC⟩
      case round =>
        clear hC hcl
        obtain ⟨k, hk, rfl, rfl, evv, prv, vs', post, hpost, hC⟩ := hrel
        by_cases hlt : k < N
        · have hqk : k < qs.length := by rw [Hql.out]; exact hlt
          have hck' : k < css.length := by rw [HM.out]; exact hlt
          have hlk : k < ls.length := by rw [Hvl.out]; exact hlt
          have hvk' : k < vs.length := by rw [HN.out]; exact hlt
          obtain ⟨b, o, rfl, hcA⟩ := hA (by intro e; have := HN.out; rw [e] at this; simp at this; omega)
          obtain ⟨b2, o2, rfl, _⟩ := hB (by
            intro e
            have h3 := hQ.three css[k] (List.getElem_mem hck')
            have := List.flatten_eq_nil_iff.1 e css[k] (List.getElem_mem hck')
            rw [this] at h3; cases h3)
          obtain ⟨Ak, ck, hvk, h1, h2, h3⟩ := hP.2 k vs[k] ls[k] (List.getElem?_eq_getElem hvk') (List.getElem?_eq_getElem hlk)
          obtain ⟨Wk, dk, hqv, h4, h5, h6⟩ := hQ.2 k css[k] qs[k] (List.getElem?_eq_getElem hck') (List.getElem?_eq_getElem hqk)
          have hevk : w.cell? ⟨b, o + k, none⟩ = some (.slice Ak ls[k].length ck) := by rw [← hvk]; exact hcA k vs[k] (List.getElem?_eq_getElem hvk')
          have hrk : w.rangeAt b2 (o2 + k * 3) (incCells qs[k].size qs[k].number Wk qs[k].way.length dk) := by have := hB.group hQ.three k hck' (by decide); rwa [hqv] at this
          have hinc : incAt gw qs k = incCells qs[k].size qs[k].number (some ⟨gw, cutOff (waysLen qs k) qs[k].way.length, none⟩) qs[k].way.length qs[k].way.length := by
            unfold incAt; rw [List.getD_eq_getElem?_getD, List.getElem?_eq_getElem hqk]; rfl
          have hwc := wayCells_succ qs k hqk
          have Hq : qs.getD k default = qs[k] := by rw [List.getD_eq_getElem?_getD, List.getElem?_eq_getElem hqk]; rfl
          have Hw := Lib.hid (show waysLen qs (k + 1) = waysLen qs k + qs[k].way.length by show _ + _ = _; rw [Hq])
          have hle := waysLen_mono qs (show k + 1 ≤ N by omega)
          rw [Hw.out] at hle
          have hwl := wayCells_length qs h32 k (by omega)
          have h6l := digs_length h6.1
          have hsn := hsl ls[k] (List.getElem_mem hlk)
          have htk : ls.take (k + 1) = ls.take k ++ [ls[k]] := by rw [List.take_add_one, List.getElem?_eq_getElem hlk]; rfl
          obtain ⟨q, hqq⟩ : ∃ q, q = qs[k] := ⟨_, rfl⟩
          obtain ⟨l, hll⟩ : ∃ l, l = ls[k] := ⟨_, rfl⟩
          rw [← hqq] at hrk hinc hwc Hw hle h4 h6 h6l
          rw [← hll] at hevk h1 h3 hsn htk
          clear hqq hqv Hq hqk hck' hll hvk hlk hvk' hcA
          have hce : wr.cell? ⟨b, o + k, none⟩ = some (.slice Ak l.length ck) := by rw [hC.be.cell (p := ⟨b, _, none⟩) (block_lt_of_cell hevk)]; exact hevk
          have hr1 : wr.rangeAt b2 (o2 + k * 3) (incCells q.size q.number Wk q.way.length dk) := range_keep hrk hC.be
          have hcw : wr.cell? ⟨b2, o2 + k * 3 + 2, none⟩ = some (.slice Wk q.way.length dk) := hr1 2 _ rfl
          have h6' : Rd wr Wk (q.way.flatMap bvs) := h6.2.below hC.be (Nat.le_refl _)
          have hbW := hC.bw
          go_wp2_with (first
            | ((with_reducible refine law_append_room (.tmp 36) (.tmp 41) 29 23 i23 32 Tryd.underlying29 hi23 hs23 (by decide) gw (waysLen qs k) (waysLen qs N) _ ?_ hbW Wk q.way.length dk (q.way.flatMap bvs) ?_ ?_ h6' ?_ ?_ ?_ ?_); (rfl); (rfl); (rw [h6l, Nat.mul_comm]); (intro u hu; obtain ⟨d, _, hd⟩ := List.mem_flatMap.1 hu; exact oneCell_bvs d u hd); (omega); (rw [List.length_append, hwl, hpost.out, h6l]; omega); intro w4 hBw4 hg4 hs4))
          have hwn : lay (wayCells qs k ++ post) (waysLen qs k * 32) (q.way.flatMap bvs) = wayCells qs (k + 1) ++ post.drop (q.way.flatMap bvs).length := by rw [← hwl, hwc]; simp [lay]
          rw [hwn] at hBw4
          have hC4 := hC.way hg4 hBw4
          have h3' : Rd w4.drew Ak (bvs l) := h3.below hC4.drew.be (Nat.le_refl _)
          have hp4 : Hid ((post.drop (q.way.flatMap bvs).length).length = (waysLen qs N - waysLen qs (k + 1)) * 32) := Lib.hid (by rw [List.length_drop, hpost.out, h6l, Hw.out]; omega)
          obtain ⟨post4, hpp⟩ : ∃ p, p = post.drop (q.way.flatMap bvs).length := ⟨_, rfl⟩
          rw [← hpp] at hp4 hC4
          clear hC hbW hce hr1 hcw h6' hwn hBw4 hg4 hs4 hpost hpp hwc hwl
          refine wp_region_plan [(0, true), (1, true), (2, true), (3, false), (4, false), (5, false), (6, true), (7, false)] 7 (fun wx => Blk wx gp 37 (pieceCells ByteArray.empty 0 (List.replicate 32 0) evv prv)) (by kernel_rfl) (by kernel_rfl) rfl (by kernel_rfl) (by intro c a d v w h; cases d <;> exact h) hC4.drew.bp ?_
          repeat (refine plan_take rfl rfl ?_; apply Exists.intro; refine ⟨fun w' hS => ?_, ?_⟩; ((have hc := (hS.cell 34).trans (pieceCells_ev _ _ _ (by simp) _ _)); go_simp; rfl); simp only [List.getElem_toArray, List.getElem_cons_succ, List.getElem_cons_zero, Act.put, List.setIfInBounds_toArray, List.set_cons_succ, List.set_cons_zero])
          refine plan_loud rfl rfl ?_
          refine op_append_nil (.tmp 45) 27 5 i5 _ 1 1 Tryd.underlying27 hi5 hz5 hs5 hy5 (by decide) Ak l.length ck (bvs l) rfl (by rw [bvs_length, Nat.mul_one]) h3' (by omega) (by omega) ?_
          intro A' c' w5 hg5 hrd5 hc5 hc5m hnew5
          have hC5 := hC4.drew.none hg5
          have hC5 := hC5.parts (hC5.pt.snoc hc5 hc5m hrd5 (fun b o e => Nat.le_trans hC4.drew.size (hnew5 b o e)))
          rw [← htk] at hC5
          refine ⟨.inr (.inr hC5.bp), ?_⟩
          clear hrd5 hg5 h3' hC4
          simp only [Act.put, List.setIfInBounds_toArray, List.set_cons_succ, List.set_cons_zero]
          refine plan_loud rfl rfl ?_
          refine op_build_cell (.tmp 46) 24 27 i27 _ Tryd.underlying24 hi27 hz27 (.slice A' l.length c') rfl rfl hs27 ?_
          intro g6 w6 hB6 hg6 _
          have hC6 := hC5.none hg6
          refine ⟨.inr (.inr hC6.bp), ?_⟩
          simp only [Act.put, List.setIfInBounds_toArray, List.set_cons_succ, List.set_cons_zero]
          refine plan_loud rfl rfl ?_
          have hrd6 : Rd w6 (some ⟨g6, 0, none⟩) [.slice A' l.length c'] := Rd.of_blk hB6 0 1
          refine op_append (.tmp 44) (.tmp 47) 24 w.heap.size 27 i27 _ 1 24 Tryd.underlying24 hi27 hz27 hs27 hy27 rfl (by decide) evv k vs' rfl hC6.oe (some ⟨g6, 0, none⟩) 1 1 [.slice A' l.length c'] rfl rfl hrd6 (by intro u hu; rw [List.mem_singleton.1 hu]; rfl) (by simp only [maxLen]; omega) (by omega) hC6.size ?_
          intro ev' w7 hown7 hg7 hr7
          have hC7 := hC6.evs hg7 hown7
          refine ⟨.inr (.inr hC7.bp), ?_⟩
          clear hrd6 hC6 hB6 hg6 hC5 hg7 hr7
          simp only [Act.put, List.setIfInBounds_toArray, List.set_cons_succ, List.set_cons_zero]
          refine plan_take rfl rfl ?_; apply Exists.intro; refine ⟨fun w' hS => ?_, ?_⟩; (go_simp; rfl); simp only [List.getElem_toArray, List.getElem_cons_succ, List.getElem_cons_zero, Act.put, List.setIfInBounds_toArray, List.set_cons_succ, List.set_cons_zero]
          refine plan_loud rfl rfl ?_
          refine op_storeCell (.tmp 49) (.tmp 48) 24 gp 34 rfl ev' rfl (own_oneCell hown7).2 (own_oneCell hown7).1 size_s24 37 _ hC7.bp (by rw [pieceCells_length _ _ _ (by simp)]; decide) ?_
          intro w8 hB8 hg8 _
          rw [piece_set_ev _ _ _ (by simp)] at hB8
          have hC8 := hC7.hdr hg8 hB8
          refine ⟨.inr (.inl rfl), plan_nil ?_⟩
          clear hB8 hg8 hC7
          have hr8 : w8.drew.rangeAt b2 (o2 + k * 3) (incCells q.size q.number Wk q.way.length dk) := range_keep hrk hC8.drew.be
          go_wp2
          have hm1 : waysLen qs k ≤ waysLen qs k + q.way.length := by omega
          simp only [Act.put]
          refine wp_region_plan [(0, true), (1, true), (2, true), (3, true), (4, true), (5, true), (6, true), (7, true), (8, true), (9, true), (10, true), (11, true), (12, true), (13, true), (14, true), (15, true), (16, true), (17, true), (18, true), (19, true), (20, false), (21, false), (22, true), (23, false)] 23 (fun wx => Blk wx gp 37 (pieceCells ByteArray.empty 0 (List.replicate 32 0) ev' prv) ∧ wx.rangeAt b2 (o2 + k * 3) (incCells q.size q.number Wk q.way.length dk)) (by kernel_rfl) (by kernel_rfl) rfl (by kernel_rfl) (by intro c a d v w h; cases d <;> exact h) ⟨hC8.drew.bp, hr8⟩ ?_
          repeat (refine plan_take rfl rfl ?_; apply Exists.intro; refine ⟨fun w' hS => ?_, ?_⟩; ((have hc := (hS.1.cell 35).trans (pieceCells_pr _ _ _ (by simp) _ _)); (have hc0 : w'.cell? ⟨b2, o2 + k * 3, none⟩ = some (.int .i64 q.size) := hS.2 0 _ rfl); (have hc1 : w'.cell? ⟨b2, o2 + k * 3 + 1, none⟩ = some (.int .i64 q.number) := hS.2 1 _ rfl); clear hS; go_simp; rfl); simp only [List.getElem_toArray, List.getElem_cons_succ, List.getElem_cons_zero, Act.put, List.setIfInBounds_toArray, List.set_cons_succ, List.set_cons_zero])
          refine plan_take rfl rfl ⟨.slice (some ⟨gw, cutOff (waysLen qs k) q.way.length, none⟩) q.way.length q.way.length, fun w' hS => ?_, ?_⟩
          · clear hS hr8 hrk hC8 hP hQ hB hA h3 h6 hgp0 hgr0 hgw0
            go_simp
            have es : ((waysLen qs k : Int) + (q.way.length : Int)) = ((waysLen qs k + q.way.length : Nat) : Int) := (Int.natCast_add _ _).symm
            rw [es, if_pos ⟨by omega, by omega⟩, if_pos ⟨by omega, by omega⟩, Int.toNat_natCast, if_pos hm1, Nat.add_sub_cancel_left]
            unfold cutOff
            by_cases h0 : q.way.length = 0
            · rw [if_pos h0, if_pos (by omega)]
            · rw [if_neg h0, if_neg (by omega)]
          simp only [List.getElem_toArray, List.getElem_cons_succ, List.getElem_cons_zero, Act.put, List.setIfInBounds_toArray, List.set_cons_succ, List.set_cons_zero]
          refine plan_take rfl rfl ⟨.agg (incCells q.size q.number (some ⟨gw, cutOff (waysLen qs k) q.way.length, none⟩) q.way.length q.way.length).toArray, fun w' hS => ?_, ?_⟩
          · clear hS hr8 hrk hC8 hP hQ hB hA h3 h6 hgp0 hgr0 hgw0
            go_simp
            rfl
          simp only [List.getElem_toArray, List.getElem_cons_succ, List.getElem_cons_zero, Act.put, List.setIfInBounds_toArray, List.set_cons_succ, List.set_cons_zero]
          rw [← hinc]
          refine plan_loud rfl rfl ?_
          refine op_build_agg (.tmp 69) 25 31 i31 _ Tryd.underlying25 hi31 hz31 (incAt gw qs k) rfl (by rw [hinc]; exact hs31) (by rw [hinc]; exact Nat.succ_pos 2) (by rw [hinc]; show 3 ≤ 1000; decide) ?_
          intro g9 w9 hB9 hg9 _
          have hC9 := hC8.drew.none hg9
          have hr9 : w9.rangeAt b2 (o2 + k * 3) (incCells q.size q.number Wk q.way.length dk) := range_keep hrk hC9.be
          refine ⟨.inr (.inr ⟨hC9.bp, hr9⟩), ?_⟩
          clear hr8
          simp only [Act.put, List.setIfInBounds_toArray, List.set_cons_succ, List.set_cons_zero]
          refine plan_loud rfl rfl ?_
          have hrd9 : Rd w9 (some ⟨g9, 0, none⟩) (incAt gw qs k) := fun _ => ⟨g9, 0, rfl, hB9.range⟩
          refine op_append (.tmp 51) (.tmp 70) 25 w.heap.size 31 i31 _ 3 40 Tryd.underlying25 hi31 hz31 hs31 (by rw [← hy31]; exact congrArg TypeInfo.bytes (Option.some.inj (hi31.symm.trans hi31'))) rfl (by decide) prv k (incCut gw qs k).flatten rfl hC9.op (some ⟨g9, 0, none⟩) 1 1 (incAt gw qs k) rfl (by rw [hinc]; rfl) hrd9 (by rw [hinc]; exact inc_oneCell _ _ _ _ _) (by simp only [maxLen]; omega) (by omega) hC9.size ?_
          intro pv' w10 hown10 hg10 hr10
          rw [← incCut_succ] at hown10
          have hC10 := hC9.prs hg10 hown10
          have hr10' : w10.rangeAt b2 (o2 + k * 3) (incCells q.size q.number Wk q.way.length dk) := range_keep hrk hC10.be
          refine ⟨.inr (.inr ⟨hC10.bp, hr10'⟩), ?_⟩
          clear hrd9 hB9 hg9 hC9 hr9 hr10
          simp only [Act.put, List.setIfInBounds_toArray, List.set_cons_succ, List.set_cons_zero]
          refine plan_take rfl rfl ?_; apply Exists.intro; refine ⟨fun w' hS => ?_, ?_⟩; (go_simp; rfl); simp only [List.getElem_toArray, List.getElem_cons_succ, List.getElem_cons_zero, Act.put, List.setIfInBounds_toArray, List.set_cons_succ, List.set_cons_zero]
          refine plan_loud rfl rfl ?_
          refine op_storeCell (.tmp 72) (.tmp 71) 25 gp 35 rfl pv' rfl (own_oneCell hown10).2 (own_oneCell hown10).1 size_s25 37 _ hC10.bp (by rw [pieceCells_length _ _ _ (by simp)]; decide) ?_
          intro w11 hB11 hg11 _
          rw [piece_set_pr _ _ _ (by simp)] at hB11
          have hC11 := hC10.hdr hg11 hB11
          refine ⟨.inr (.inl rfl), plan_nil ?_⟩
          clear hB11 hg11 hC10 hr10'
          go_wp2
          go_roundw
          case rel => exact ⟨k + 1, by omega, by rw [Hw.out], by go_num, ev', pv', _, post4, hp4, hC11⟩
          case measure => simp [intOf]; omega
        · have hkN : N = k := by omega
          subst hkN
          have hlq : qs.length = N := Hql.out
          have hll : ls.length = N := Hvl.out
          have hrange : wr.rangeAt gp 0 (pieceCells ByteArray.empty 0 (List.replicate 32 0) evv prv) := hC.bp.range
          have Hp2 := Lib.hid (pieceCells_length ByteArray.empty 0 (List.replicate 32 0) (by simp) evv prv)
          have h1c : ∀ u ∈ pieceCells ByteArray.empty 0 (List.replicate 32 0) evv prv, u.oneCell' = true := by
            intro u hu
            simp only [pieceCells, List.mem_append, List.mem_cons, List.not_mem_nil, or_false] at hu
            rcases hu with (rfl | rfl) | hu | rfl | rfl
            · rfl
            · rfl
            · exact oneCell_bvs _ u hu
            · exact (own_oneCell hC.oe).1
            · exact (own_oneCell hC.op).1
          have hbr := hC.br
          go_wp2_with (first
            | ((with_reducible refine law_load_g ?_ _ Tryd.underlying37 ?_ gp 0 ?_ (pieceCells ByteArray.empty 0 (List.replicate 32 0) evv prv) ?_ hrange ?_); (rfl); (rfl); (rfl); (rw [Hp2.out]; exact size_piece))
            | ((with_reducible refine law_store (.tmp 4) (.tmp 74) 37 gr 0 ?_ (pieceCells ByteArray.empty 0 (List.replicate 32 0) evv prv) ?_ ?_ 37 _ hbr ?_ h1c ?_); (rfl); (rfl); (rw [Hp2.out]; exact size_piece); (rw [Hp2.out, Hp]; decide); intro wz hBz hgz hsz; rw [lay_all _ _ (by rw [Hp2.out, Hp])] at hBz))
          have hoe := hC.oe.kept hgz (.inr (own_ne hC.oe hC.br (by decide)))
          have hop := hC.op.kept hgz (.inr (own_ne hC.op hC.br (by decide)))
          have hpt := hC.pt.grown hgz (blk_typed hC.br) (by decide)
          have hbw := hC.bw.grown hgz (fun e => hC.bw.ne_ hC.br (by decide) (by injection e))
          have hbz : Below w.heap.size w wz := hC.be.trans (below_of_grown hgz hC.size (fun k hk => by injection hk with hk; rw [← hk]; exact hgr0))
          rw [← hll, List.take_length] at hpt
          rw [← hlq] at hop hbw
          rw [← hll] at hoe
          have hit := incsT_cut hbw hC.lw h32 (by rw [hlq]; simp only [maxLen]; omega)
          exact ret_cell rfl gr rfl 37 _ hBz _ Tryd.underlying37 rfl (by rw [Hp2.out]; exact size_piece) rfl ⟨evv, prv, rfl, hbz, vs', _, hoe, hop, hpt, hit⟩
end Go.Proofs.YtcmponmgaikkfaaDoor
