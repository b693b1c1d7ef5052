/-
  The law's walk: over any input that is read, docketlaw17.ProofJoined answers true and turns nothing that was there.
-/
import Derived.Test.YtcmponmgaikkfaaDoorKept
namespace Go.Proofs.YtcmponmgaikkfaaDoor
open Go.RowKit

set_option maxHeartbeats 8000000 in
set_option maxRecDepth 100000 in
theorem law_any (w : World) (htab : Tab w) (width att : Int) (s : ByteArray) (hs : s.size < 4294967296) (first : Int) (before : List UInt8) (hbf : before.length = 32) (M0 K0 : Nat) (A : Option Addr) (c : Nat) (vs : List Value) (ls : List (List UInt8)) (B : Option Addr) (d : Nat) (css : List (List Value)) (qs : List Inc)
    (hA : Rd w A vs) (hP : Parts w vs ls) (hB : Rd w B css.flatten) (hQ : Incs w css qs) (HN : Hid (vs.length = M0)) (HM : Hid (css.length = K0)) (hMc : M0 ≤ c) (hcm : c ≤ maxLen) (hKd : K0 ≤ d) (hdm : d ≤ maxLen) (hsl : ∀ l ∈ ls, l.length < 4294967296) (hsq : waysLen qs K0 < 4294967296) :
    Calls Tryd.prog 3 #[.int .i64 width, .string s, .int .i64 first, .agg (bvs before).toArray, .slice A M0 c, .slice B K0 d, .int .i64 att] w fun e w' => e = .returned (.bool true) ∧ Below w.heap.size w w' := by
  have Hl := Lib.hid (show 32 = (bvs before).length by rw [bvs_length, hbf])
  go_enter Tryd.func3, Tryd.ntmps3
  obtain ⟨M, hM⟩ : ∃ M, M = min M0 2200 := ⟨_, rfl⟩
  obtain ⟨K, hK⟩ : ∃ K, K = min K0 2200 := ⟨_, rfl⟩
  have hA1 := hA.take M
  have hP1 := hP.take M
  have hB1 : Rd w B (css.take K).flatten := by rw [flatten_take hQ.three]; exact hB.take (K * 3)
  have hQ1 := hQ.take K
  have HN1 := Lib.hid (show (vs.take M).length = M by rw [List.length_take, HN.out]; omega)
  have HM1 := Lib.hid (show (css.take K).length = K by rw [List.length_take, HM.out]; omega)
  have hsl1 : ∀ l ∈ ls.take M, l.length < 4294967296 := fun l hl => hsl l (List.mem_of_mem_take hl)
  have hsq1 : waysLen (qs.take K) K < 4294967296 := by
    have := waysLen_cut qs 0 K K0 (by omega)
    rw [List.drop_zero] at this
    omega
  have hM2 : M ≤ 2200 := by omega
  have hK2 : K ≤ 2200 := by omega
  replace hM := Lib.hid hM
  replace hK := Lib.hid hK
  generalize vs.take M = vs1 at hA1 hP1 HN1
  generalize ls.take M = ls1 at hP1 hsl1
  generalize css.take K = css1 at hB1 hQ1 HM1
  generalize qs.take K = qs1 at hQ1 hsq1
  clear hA hP hB hQ HN HM hsl hsq
  go_wp2_with (first
    | ((with_reducible refine law_box (.tmp 3) 23 (bvs before) ?_ ?_); (rfl); intro g10 w1 hg10 hB10 hr1 hs1; have hb1 : Below w.heap.size w w1 := below_of_grown hr1 (Nat.le_refl _) (by simp))
    | (go_at_call 4; refine (few24_any w1 A M0 c hMc hcm).mono ?_; rintro e wf ⟨⟨c1, rfl, hMc1, hcm1⟩, hwf⟩; rw [hwf]; clear hwf wf; rw [← hM.out] at hMc1 ⊢)
    | (go_at_call 5; refine (few25_any w1 B K0 d hKd hdm).mono ?_; rintro e wg ⟨⟨d1, rfl, hKd1, hdm1⟩, hwg⟩; rw [hwg]; clear hwg wg; rw [← hK.out] at hKd1 ⊢)
    | ((with_reducible refine law_load_g ?_ _ Tryd.underlying23 ?_ g10 0 ?_ (bvs before) ?_ hB10.range ?_); (rfl); (rfl); (rfl); (rw [← Hl.out]; exact size_digest)))
  have hb10 : Below w.heap.size w w1 := hb1
  have hg10w : w.heap.size ≤ g10 := by rw [hg10.out]; exact Nat.le_refl _
  clear hb1 hr1 hs1 hg10
  refine (pieces_any w1 (tab_below htab hb10 (Nat.le_refl _)) width s hs first before hbf M K A c1 vs1 ls1 B d1 css1 qs1 (hA1.below hb10 (Nat.le_refl _)) (hP1.below hb10 (Nat.le_refl _)) (hB1.below hb10 (Nat.le_refl _)) (hQ1.below hb10 (Nat.le_refl _)) HN1 HM1 hMc1 hcm1 hKd1 hdm1 (by omega) (by omega) hsl1 hsq1).mono ?_
  rintro e wp hend
  rcases hend with ⟨hbp, ⟨rfl, -⟩ | ⟨lv, ps, lo0, rfl, hMK, hbeg, hris, hcuts, hlo0, pvs, hrow, hmem, h32⟩⟩
  · go_wp2
    exact bodyPost_ret (results_tmp rfl _ _ _) rfl ⟨rfl, hb10.trans (hbp.mono hb10.size)⟩
  · subst hMK
    clear hK2
    have hlen := Lib.hid (show ls1.length = M from hP1.1.symm.trans HN1.out)
    have hqlen := Lib.hid (show qs1.length = M from hQ1.1.symm.trans HM1.out)
    have hBp := hB10.below hbp hB10.lt
    have hrow0 := own_mono hrow hb10.size
    have hb0p : Below w.heap.size w wp := hb10.trans (hbp.mono hb10.size)
    have hpl := hmem.length
    have hlvp : ∀ g, lv.ownBlock = some g → g < wp.heap.size := fun g e => (hrow.lt g e).2
    replace hpl := Lib.hid hpl
    replace hcuts := Lib.hid hcuts
    replace hris := Lib.hid hris
    replace h32 := Lib.hid h32
    replace hbeg := Lib.hid hbeg
    have hlvf : ∃ Al cl, lv = .slice Al ps.length cl ∧ ps.length ≤ cl ∧ cl ≤ maxLen := by
      rcases hrow.2 with ⟨rfl, h0⟩ | ⟨g, cap, cur, rfl, _, _, h1, h2, _⟩
      · exact ⟨none, 0, by rw [h0], by omega, by simp [maxLen]⟩
      · exact ⟨_, _, rfl, h1, h2⟩
    obtain ⟨Al, cl, rfl, hlc, hclm⟩ := hlvf
    obtain ⟨i23, hi23, hz23, hs23, hy23⟩ := info_parts info_digest
    clear hB10 hrow hbp
    go_wp2_with (first
      | ((with_reducible refine law_load_g ?_ _ Tryd.underlying23 ?_ g10 0 ?_ (bvs before) ?_ hBp.range ?_); (rfl); (rfl); (rfl); (rw [← Hl.out]; exact size_digest))
      | ((with_reducible refine law_alloc (dst := some 18) 23 i23 _ hi23 hz23 (List.replicate 32 (.int .u8 0)) ?_ ?_); (rfl); intro g18 w2 hg18 hB18 hr2 hs2)
      | ((with_reducible refine law_store (.tmp 18) (.tmp 58) 23 g18 0 ?_ (bvs before) ?_ ?_ 23 (List.replicate 32 (.int .u8 0)) hB18 ?_ (oneCell_bvs _) ?_); (rfl); (rfl); (rw [← Hl.out]; exact size_digest); (rw [← Hl.out]; decide); intro w3 hB3 hr3 hs3; rw [lay_all _ _ (by rw [← Hl.out]; rfl)] at hB3))
    have hgs := grown_skip hr2 hr3 (by rw [hg18.out]; exact Nat.le_refl _)
    have hL0 : Lx w wp g10 g18 before before s (.slice Al ps.length cl) ps pvs lo0 w3 :=
      ⟨hBp.grown hgs (by simp), hB3, hrow0.kept hgs (by cases hv : (Value.slice Al ps.length cl).ownBlock with | none => exact .inl rfl | some _ => exact .inr (by simp)), (Kp.refl wp lo0).grown hgs (by simp), hb0p.trans (below_of_grown hgs hb0p.size (by simp)), by have := hBp.lt; rw [hg18.out]; omega, by rw [hg18.out]; exact Nat.le_refl _, hb0p.size, hlvp⟩
    have hlo0w : w.heap.size ≤ lo0 := Nat.le_trans hb10.size hlo0
    clear hgs hr2 hr3 hs2 hs3 hB18 hB3 hrow0 hBp hg18 hlo0 hlvp
    go_loopw [17, 19] (fun nv iv wx => ∃ i lo, i ≤ ps.length ∧ nv = .int .i64 (offP ps i : Nat) ∧ iv = .int .i64 (i : Int) ∧ w.heap.size ≤ lo ∧ PcsMem wp wp.heap.size lo (pvs.drop i) (ps.drop i) ∧ Lx w wp g10 g18 before (chainL width before (ls1.take (offP ps i))) s (.slice Al ps.length cl) ps pvs lo wx) (fun _ iv _ => ps.length - (intOf iv).toNat)
    case atStart => exact ⟨0, lo0, Nat.zero_le _, rfl, rfl, hlo0w, hmem, hL0⟩
    case round =>
      clear hL0
      obtain ⟨i, lo, hi, rfl, rfl, hlo, hmi, hL⟩ := hrel
      by_cases hlt : i < ps.length
      --[[
      · obtain ⟨hpi, hn0, hoff⟩ := cuts_at hcuts.out i hlt
        have hle := stepN_le width s first before ls1 qs1 (offP ps i)
        have hfn := step_facts (width := width) (before := before) (ls := ls1) (qs := qs1) (s := s) (first := first) (k := offP ps i) rfl hn0
        have henc := enc_piece hn0
        have hlong := enc_longer hn0
        obtain ⟨k, hk⟩ : ∃ k, offP ps i = k := ⟨_, rfl⟩
        rw [hk] at hpi hn0 hoff hle hfn henc hlong hL ⊢
        obtain ⟨n, hn⟩ : ∃ n, stepN width s first before ls1 qs1 k = n := ⟨_, rfl⟩
        rw [hn] at hpi hn0 hoff hle hfn henc hlong
        have hch := chainL_length width before hbf (ls1.take k)
        have hchn := fun j => chain_piece (width := width) (before := before) (ls := ls1) k j
        have hsucc := fun j => chainL_succ width before ls1 (k + j)
        obtain ⟨ch, hche⟩ : ∃ ch, chainL width before (ls1.take k) = ch := ⟨_, rfl⟩
        rw [hche] at hch henc hlong hL
        have hpi' : ps[i] = ⟨first + k, ch, (ls1.drop k).take n, (qs1.drop k).take n⟩ := by rw [hpi, ← hche]; rfl
        have hpv : i < pvs.length := by rw [hpl.out]; exact hlt
        rw [List.drop_eq_getElem_cons hpv, List.drop_eq_getElem_cons hlt] at hmi
        obtain ⟨hib, hlh, hpm, hev, hpr, hmn⟩ := hmi
        rw [hpi'] at hpm
        obtain ⟨gl, cap, hlv, _, _, hgl0, hgl, hrg⟩ := row_at hL.row hpl.out h32.out (by omega)
        obtain ⟨rfl, rfl⟩ : Al = some ⟨gl, 0, none⟩ ∧ cl = cap := by injection hlv with h1 _ h2; exact ⟨h1, h2⟩
        have hri := hrg i pvs[i] ps[i] (List.getElem?_eq_getElem hpv) (List.getElem?_eq_getElem hlt)
        rw [hpi'] at hri
        have hrnext := hrg (i + 1)
        obtain ⟨⟨ev, pr⟩, hevp⟩ : ∃ vp, vp = pvs[i] := ⟨_, rfl⟩
        rw [← hevp] at hpm hev hpr hri
        simp only at hpm hev hpr hri
        obtain ⟨lsi, hlsi⟩ : ∃ l, l = (ls1.drop k).take n := ⟨_, rfl⟩
        obtain ⟨qsi, hqsi⟩ : ∃ l, l = (qs1.drop k).take n := ⟨_, rfl⟩
        have hM1 : k + n ≤ M := by rw [hlen.out] at hle; omega
        have hlli : lsi.length = n := by rw [hlsi, List.length_take, List.length_drop, hlen.out]; omega
        have hlqi : qsi.length = n := by rw [hqsi, List.length_take, List.length_drop, hqlen.out]; omega
        rw [← hlsi, ← hqsi] at hpm henc
        obtain ⟨ge, ce, gq, cq, vsi, cssi, rfl, rfl, hge, hgq, hce1, hce2, hcq1, hcq2, hoe, hop, hpt, hit, hre, hrq⟩ := piece_form hpm (by omega) (by omega)
        rw [hlli] at hce1 hoe hri hpm hev hevp
        rw [hlqi] at hcq1 hop hri hpm hpr hevp
        replace hlsi := Lib.hid hlsi
        replace hqsi := Lib.hid hqsi
        replace hlli := Lib.hid hlli
        replace hlqi := Lib.hid hlqi
        replace hpi := Lib.hid hpi'
        replace hche := Lib.hid hche
        replace hk := Lib.hid hk
        replace hn := Lib.hid hn
        replace hoff := Lib.hid hoff
        replace hchn := Lib.hid hchn
        replace hsucc := Lib.hid hsucc
        replace henc := Lib.hid henc
        replace hlong := Lib.hid hlong
        replace hevp := Lib.hid hevp
        replace hrnext := Lib.hid hrnext
        replace hre := Lib.hid hre
        replace hrq := Lib.hid hrq
        clear hle hrg hlv hpi' hpm
        have hcl := Lib.hid (pieceCells_length s (first + k) ch hch (.slice (some ⟨ge, 0, none⟩) n ce) (.slice (some ⟨gq, 0, none⟩) n cq))
        obtain ⟨i37, hi37, hz37, hs37, hy37⟩ := info_parts info_piece
        have Hch := Lib.hid (show 32 = (bvs ch).length by rw [bvs_length, hch])
        have hcc : (!(ch == ch)) = false := by simp
        have hff : (first + (k : Int) != first + (k : Int)) = false := by simp
        have hn0' : ((n : Int) == 0) = false := by rw [beq_eq_false_iff_ne]; omega
        have hgt : decide ((M : Int) < (k : Int) + (n : Int)) = false := by rw [decide_eq_false_iff_not]; omega
        have hpl0 := Lib.hid (fun (ev pr : Value) => pieceCells_length ByteArray.empty 0 (List.replicate 32 0) (by simp) ev pr)
        have h1c : ∀ u ∈ pieceCells s (first + k) ch (.slice (some ⟨ge, 0, none⟩) n ce) (.slice (some ⟨gq, 0, none⟩) n cq), u.oneCell' = true := piece_cells_one _ _ _ _ _ rfl rfl
        go_wp2_with (first
          | ((with_reducible refine law_load_g ?_ _ Tryd.underlying37 ?_ gl (i * 36) ?_ (pieceCells s (first + k) ch (.slice (some ⟨ge, 0, none⟩) n ce) (.slice (some ⟨gq, 0, none⟩) n cq)) ?_ hri ?_); (rfl); (rfl); (rfl); (rw [hcl.out]; exact size_piece))
          | ((with_reducible refine law_alloc (dst := some 20) 37 i37 _ hi37 hz37 (pieceCells ByteArray.empty 0 (List.replicate 32 0) (.slice none 0 0) (.slice none 0 0)) ?_ ?_); (rfl); intro g20 w4 hg20 hB20 hr4 hs4)
          | ((with_reducible refine law_store (.tmp 20) (.tmp 68) 37 g20 0 ?_ (pieceCells s (first + k) ch (.slice (some ⟨ge, 0, none⟩) n ce) (.slice (some ⟨gq, 0, none⟩) n cq)) ?_ ?_ 37 _ hB20 ?_ h1c ?_); (rfl); (rfl); (rw [hcl.out]; exact size_piece); (rw [hcl.out, hpl0.out]; decide); intro w5 hB5 hr5 hs5; rw [lay_all _ _ (by rw [hcl.out, hpl0.out])] at hB5; have hL5 := (hL.none hr4).side hr5 hB20 (by rw [hg20.out]; exact hL.kp.1); have hcs5 := (hB5.cell 0).trans (show _ = some (Value.string s) from rfl); have hcf5 := (hB5.cell 1).trans (show _ = some (Value.int .i64 (first + (k : Int))) from rfl); have hce5 := (hB5.cell 34).trans (pieceCells_ev _ _ _ hch _ _); have hcp5 := (hB5.cell 35).trans (pieceCells_pr _ _ _ hch _ _); have hcb5 : w5.rangeAt g20 2 (bvs ch) := hB5.range_mid)
          | ((with_reducible refine law_load_g ?_ _ Tryd.underlying23 ?_ g20 2 ?_ (bvs ch) ?_ hcb5 ?_); (rfl); (rfl); (rfl); (rw [← Hch.out]; exact size_digest))
          | ((with_reducible refine law_load_g ?_ _ Tryd.underlying23 ?_ g18 0 ?_ (bvs ch) ?_ hL5.b18.range ?_); (rfl); (rfl); (rfl); (rw [← Hch.out]; exact size_digest))
          | ((with_reducible refine law_ne_digest_g ?_ ch ch hch hch ?_ ?_ ?_); (rfl); (rfl); (rfl); rw [hcc])
          | ((with_reducible refine law_load_g ?_ _ Tryd.underlying37 ?_ g20 0 ?_ (pieceCells s (first + k) ch (.slice (some ⟨ge, 0, none⟩) n ce) (.slice (some ⟨gq, 0, none⟩) n cq)) ?_ hB5.range ?_); (rfl); (rfl); (rfl); (rw [hcl.out]; exact size_piece)))
        have hsli : ∀ l ∈ lsi, l.length < 4294967296 := fun l hl => by rw [hlsi.out] at hl; exact hsl1 l (List.mem_of_mem_drop (List.mem_of_mem_take hl))
        have hsqi : ∀ q ∈ qs1, q.way.length < 4294967296 := fun q hq => by
          have := way_le qs1 q hq
          rw [hqlen.out] at this
          omega
        have hsqi' : ∀ q ∈ qsi, q.way.length < 4294967296 := fun q hq => by rw [hqsi.out] at hq; exact hsqi q (List.mem_of_mem_drop (List.mem_of_mem_take hq))
        have hg20 : wp.heap.size ≤ g20 := by rw [hg20.out]; exact hL.kp.1
        clear hL hr4 hr5 hs4 hs5 hB20 hri h1c hcs5 hcf5 hce5 hcp5 hcb5
        refine (enc_own w5 s hs (first + k) ch hch n lo _ _ _ _ vsi cssi lsi qsi (own_kp hoe hL5.kp) (own_kp hop hL5.kp) (hpt.kp hL5.kp) (hit.kp hL5.kp) hlli.out hlqi.out hn0 (by simp only [maxLen]; omega) hsli hsqi').mono ?_
        rintro e w6 ⟨⟨u6, rfl⟩, hb6⟩
        rw [henc.out]
        have hL6 := hL5.below hb6
        have hB6 := hB5.below hb6 hB5.lt
        go_wp2
        rw [← hche.out] at hL6
        go_loopw [17, 23] (fun nv jv wx => ∃ j : Nat, j ≤ n ∧ nv = .int .i64 (k + j : Nat) ∧ jv = .int .i64 (j : Int) ∧ Lx w wp g10 g18 before (chainL width before (ls1.take (k + j))) s (.slice (some ⟨gl, 0, none⟩) ps.length cl) ps pvs lo wx ∧ Blk wx g20 37 (pieceCells s (first + k) ch (.slice (some ⟨ge, 0, none⟩) n ce) (.slice (some ⟨gq, 0, none⟩) n cq))) (fun _ jv _ => n - (intOf jv).toNat)
        case atStart => exact ⟨0, Nat.zero_le _, by simp, rfl, hL6, hB6⟩
        case round =>
          clear hL6 hB6 hL5 hB5
          obtain ⟨j, hj, rfl, rfl, hLj, hBj⟩ := hrel
          by_cases hjn : j < n
          · have hkj : k + j < M := by omega
            obtain ⟨bA, oA, rfl, hcA⟩ := hA1 (by intro e; have := HN1.out; rw [e] at this; simp at this; omega)
            have hlk : k + j < ls1.length := by rw [hlen.out]; exact hkj
            have hqk : k + j < qs1.length := by rw [hqlen.out]; exact hkj
            have hvk : k + j < vs1.length := by rw [HN1.out]; exact hkj
            have hck : k + j < css1.length := by rw [HM1.out]; exact hkj
            obtain ⟨bB, oB, rfl, _⟩ := hB1 (by
              intro e
              have h3 := hQ1.three css1[k + j] (List.getElem_mem hck)
              have := List.flatten_eq_nil_iff.1 e css1[k + j] (List.getElem_mem hck)
              rw [this] at h3; cases h3)
            obtain ⟨A2, c2, hv2, h21, h22, h23⟩ := hP1.2 (k + j) vs1[k + j] ls1[k + j] (List.getElem?_eq_getElem hvk) (List.getElem?_eq_getElem hlk)
            obtain ⟨W2, d2, hq2, h24, h25, h26⟩ := hQ1.2 (k + j) css1[k + j] qs1[k + j] (List.getElem?_eq_getElem hck) (List.getElem?_eq_getElem hqk)
            have hptj := hpt.kp hLj.kp
            have hitj := hit.kp hLj.kp
            have hlj : j < vsi.length := by rw [hpt.1, hlli.out]; exact hjn
            have hcj : j < cssi.length := by rw [hit.1, hlqi.out]; exact hjn
            have hljs : lsi[j]? = some ls1[k + j] := by rw [hlsi.out, List.getElem?_take, if_pos hjn, List.getElem?_drop]; exact List.getElem?_eq_getElem hlk
            have hqjs : qsi[j]? = some qs1[k + j] := by rw [hqsi.out, List.getElem?_take, if_pos hjn, List.getElem?_drop]; exact List.getElem?_eq_getElem hqk
            obtain ⟨A1, c1', hv1, h11, h12, h13, -⟩ := hptj.2 j vsi[j] ls1[k + j] (List.getElem?_eq_getElem hlj) hljs
            obtain ⟨W1, d1', hq1, h14, h15, h16, h17, -⟩ := hitj.2 j cssi[j] qs1[k + j] (List.getElem?_eq_getElem hcj) hqjs
            have hcv2 : wr.cell? ⟨bA, oA + (k + j), none⟩ = some (.slice A2 ls1[k + j].length c2) := by
              have := hcA (k + j) vs1[k + j] (List.getElem?_eq_getElem hvk)
              rw [hLj.be.cell (p := ⟨bA, _, none⟩) (block_lt_of_cell this), this, hv2]
            have hrv2 : wr.rangeAt bB (oB + (k + j) * 3) (incCells qs1[k + j].size qs1[k + j].number W2 qs1[k + j].way.length d2) := range_keep (by have := hB1.group hQ1.three (k + j) hck (by decide); rwa [hq2] at this) hLj.be
            have hcv1 : wr.cell? ⟨ge, j, none⟩ = some (.slice A1 ls1[k + j].length c1') := by
              obtain ⟨b', o', e', hc'⟩ := (Rd.of_own (own_kp hoe hLj.kp)) (by intro e; rw [e] at hlj; simp at hlj)
              obtain ⟨rfl, rfl⟩ : ge = b' ∧ 0 = o' := by injection e' with e'; injection e' with e1 e2; exact ⟨e1, e2⟩
              have := hc' j vsi[j] (List.getElem?_eq_getElem hlj)
              rw [Nat.zero_add] at this
              rw [this, hv1]
            have hrv1 : wr.rangeAt gq (j * 3) (incCells qs1[k + j].size qs1[k + j].number W1 qs1[k + j].way.length d1') := by
              have := (Rd.of_own (own_kp hop hLj.kp)).group (fun cs hcs => (hitj.incs).three cs hcs) j hcj (by decide)
              rwa [hq1, Nat.zero_add] at this
            have hsuc := hsucc.out j hlk
            have hsn := hsl1 ls1[k + j] (List.getElem_mem hlk)
            have h23' : Rd wr A2 (bvs ls1[k + j]) := h23.below hLj.be (Nat.le_refl _)
            have h26' : Digs wr W2 qs1[k + j].way := ⟨h26.1, h26.2.below hLj.be (Nat.le_refl _)⟩
            have h17' : Digs wr W1 qs1[k + j].way := ⟨h16, h17.rd⟩
            obtain ⟨l, hll⟩ : ∃ l, l = ls1[k + j] := ⟨_, rfl⟩
            obtain ⟨q, hqq⟩ : ∃ q, q = qs1[k + j] := ⟨_, rfl⟩
            rw [← hll] at h21 h11 h13 h23' hcv2 hcv1 hsuc hsn
            rw [← hqq] at h24 h14 h17' h26' hrv1 hrv2
            have hcl2 := chainL_length width before hbf (ls1.take (k + j))
            obtain ⟨cj, hcje⟩ : ∃ cj, cj = chainL width before (ls1.take (k + j)) := ⟨_, rfl⟩
            rw [← hcje] at hsuc hLj hcl2
            replace hsuc := Lib.hid hsuc
            have hge34 := (hBj.cell 34).trans (pieceCells_ev _ _ _ hch _ _)
            have hgq35 := (hBj.cell 35).trans (pieceCells_pr _ _ _ hch _ _)
            have g1 : ∀ dd os, (Sort.grow (redrawn wr dd) os).cell? ⟨g20, 34, none⟩ = some (.slice (some ⟨ge, 0, none⟩) n ce) := fun dd os => cell_regrown hge34 dd os
            have g2 : ∀ dd os, (Sort.grow (redrawn wr dd) os).cell? ⟨g20, 35, none⟩ = some (.slice (some ⟨gq, 0, none⟩) n cq) := fun dd os => cell_regrown hgq35 dd os
            have g3 : ∀ dd os, (Sort.grow (redrawn wr dd) os).cell? ⟨bA, oA + (k + j), none⟩ = some (.slice A2 l.length c2) := fun dd os => cell_regrown hcv2 dd os
            have g4 : ∀ dd os, (Sort.grow (redrawn wr dd) os).cell? ⟨ge, j, none⟩ = some (.slice A1 l.length c1') := fun dd os => cell_regrown hcv1 dd os
            have hll1 : (l == l) = true := by simp
            have hqq1 : sameI q q = true := sameI_refl q
            have hll2 : l.length ≤ maxLen := by omega
            have hqm : q.way.length ≤ maxLen := by omega
            clear hll hqq hcje hptj hitj hv1 hv2 hq1 hq2 hlk hqk hvk hck hlj hcj hljs hqjs hcA h23 h26 h16 h17
            go_wp2
            refine wp_region_quiet_below (by kernel_rfl) (by kernel_rfl) ?_
            repeat (first
              | (refine q_load rfl _ Tryd.underlying31 rfl gq (j * 3) rfl (incCells q.size q.number W1 q.way.length d1') size_inc (fun w' hw' => range_keep hrv1 (by obtain ⟨p, rfl⟩ := hw'; exact below_regrown _ _ _)) ?_; simp only [Act.put, List.setIfInBounds_toArray, List.set_cons_succ, List.set_cons_zero])
              | (refine q_load rfl _ Tryd.underlying31 rfl bB (oB + (k + j) * 3) rfl (incCells q.size q.number W2 q.way.length d2) size_inc (fun w' hw' => range_keep hrv2 (by obtain ⟨p, rfl⟩ := hw'; exact below_regrown _ _ _)) ?_; simp only [Act.put, List.setIfInBounds_toArray, List.set_cons_succ, List.set_cons_zero])
              | go_big_quiet_step (first
                | ((go_at_call 8; refine Calls.regrown_of (v := .bool true) ((sameB_any _ l l A1 c1' A2 c2 (h13.rd.below (below_regrown _ _ _) (Nat.le_refl _)) (h23'.below (below_regrown _ _ _) (Nat.le_refl _)) hll2).mono ?_); rintro e w7 ⟨rfl, hb7⟩; rw [hll1]; exact ⟨rfl, hb7⟩))
                | ((go_at_call 9; refine Calls.regrown_of (v := .bool true) ((sameIncl_any _ q q W1 d1' W2 d2 ⟨h17'.1, h17'.2.below (below_regrown _ _ _) (Nat.le_refl _)⟩ ⟨h26'.1, h26'.2.below (below_regrown _ _ _) (Nat.le_refl _)⟩ hqm).mono ?_); rintro e w7 ⟨rfl, hb7⟩; rw [hqq1]; exact ⟨rfl, hb7⟩))))
            refine wpQuiet_nil ?_
            rintro w7 ⟨pq, hw7⟩
            have hb7 : Below wr.heap.size wr w7 := by rw [hw7]; exact below_regrown wr pq.d pq.os
            clear hw7
            have hL7 := hLj.below hb7
            have hB7 := hBj.below hb7 hBj.lt
            have hcv7 : w7.cell? ⟨ge, j, none⟩ = some (.slice A1 l.length c1') := by rw [hb7.cell (p := ⟨ge, _, none⟩) (block_lt_of_cell hcv1)]; exact hcv1
            have hge7 := (hB7.cell 34).trans (pieceCells_ev _ _ _ hch _ _)
            have h13' : Rd w7 A1 (bvs l) := h13.rd.below hb7 (Nat.le_refl _)
            have Hj := Lib.hid (show 32 = (bvs cj).length by rw [bvs_length, hcl2])
            have hbl2 := ofL_length width 2 [cj, ofL width 0 [l]]
            have hll3 := ofL_length width 0 [l]
            have Hj2 := Lib.hid (show 32 = (bvs (ofL width 2 [cj, ofL width 0 [l]])).length by rw [bvs_length, hbl2])
            clear g1 g2 g3 g4 hge34 hgq35 hcv1 hcv2 hrv1 hrv2 h17' h26' h23' hLj hBj h13 hb7
            go_wp2
            refine wp_region_plan [(0, true), (1, true), (2, true), (3, true), (4, true), (5, true), (6, true), (7, true), (8, false), (9, false), (10, false)] 10 (fun wx => Blk wx g18 23 (bvs cj) ∧ wx.cell? ⟨g20, 34, none⟩ = some (.slice (some ⟨ge, 0, none⟩) n ce) ∧ wx.cell? ⟨ge, j, none⟩ = some (.slice A1 l.length c1')) (by kernel_rfl) (by kernel_rfl) rfl (by kernel_rfl) (by intro c a d v w h; cases d <;> exact h) ⟨hL7.drew.b18, hge7, hcv7⟩ ?_
            iterate 1 (refine plan_take rfl rfl ?_; apply Exists.intro; refine ⟨fun w' hS => ?_, ?_⟩; (have hc1 := hS.2.1; have hc2 := hS.2.2; clear hS; go_simp; rfl); simp only [List.getElem_toArray, List.getElem_cons_zero, Act.put, List.setIfInBounds_toArray, List.set_cons_succ, List.set_cons_zero])
            refine plan_take rfl rfl ⟨.agg (bvs cj).toArray, fun w' hS => exec_load _ w' (.tmp 18) 23 _ Tryd.underlying23 rfl g18 0 rfl (bvs cj) (by rw [← Hj.out]; exact size_digest) hS.1.range, ?_⟩
            simp only [List.getElem_toArray, List.getElem_cons_succ, List.getElem_cons_zero, Act.put, List.setIfInBounds_toArray, List.set_cons_succ, List.set_cons_zero]
            iterate 6 (refine plan_take rfl rfl ?_; apply Exists.intro; refine ⟨fun w' hS => ?_, ?_⟩; (have hc1 := hS.2.1; have hc2 := hS.2.2; clear hS; go_simp; rfl); simp only [List.getElem_toArray, List.getElem_cons_succ, List.getElem_cons_zero, Act.put, List.setIfInBounds_toArray, List.set_cons_succ, List.set_cons_zero])
            refine plan_loud rfl rfl ?_
            go_simp
            refine (leaf_any w7.drew width A1 l.length c1' l ⟨A1, c1', rfl, h11, h12, (show Rd w7.drew A1 (bvs l) from h13')⟩ (by omega) (tab_below htab hL7.drew.be (Nat.le_refl _))).mono ?_
            rintro e w8 ⟨rfl, hb8⟩
            have hL8 := hL7.drew.below hb8
            have hB8 : Blk w8 g20 37 _ := hB7.drew.below hb8 hB7.lt
            have hcv8 : w8.cell? ⟨ge, j, none⟩ = some (.slice A1 l.length c1') := by rw [hb8.cell (p := ⟨ge, _, none⟩) (block_lt_of_cell hcv7)]; exact hcv7
            refine ⟨⟨hL8.b18, (hB8.cell 34).trans (pieceCells_ev _ _ _ hch _ _), hcv8⟩, ?_⟩
            refine plan_loud rfl rfl ?_
            go_simp
            refine (link_any _ width cj (ofL width 0 [l]) hcl2 hll3 (tab_below htab hL8.be (Nat.le_refl _))).mono ?_
            rintro e w9 ⟨rfl, hb9⟩
            have hL9 := hL8.below hb9
            have hB9 := hB8.below hb9 hB8.lt
            have hcv9 : w9.cell? ⟨ge, j, none⟩ = some (.slice A1 l.length c1') := by rw [hb9.cell (p := ⟨ge, _, none⟩) (block_lt_of_cell hcv8)]; exact hcv8
            refine ⟨⟨hL9.b18, (hB9.cell 34).trans (pieceCells_ev _ _ _ hch _ _), hcv9⟩, ?_⟩
            refine plan_loud rfl rfl ?_
            refine op_store (.tmp 18) (.tmp 150) 23 g18 0 rfl (bvs (ofL width 2 [cj, ofL width 0 [l]])) rfl (by rw [← Hj2.out]; exact size_digest) 23 (bvs cj) hL9.b18 (by rw [← Hj2.out, ← Hj.out]; decide) (oneCell_bvs _) ?_
            intro w10 hB10' hg10' _
            rw [lay_all _ _ (by rw [← Hj2.out, ← Hj.out])] at hB10'
            have hL10 := hL9.chain hg10' hB10'
            have hBx := hB9.grown hg10' (fun e => hB9.ne_ hL9.b18 (by decide) (by injection e))
            refine ⟨.inr (.inl rfl), plan_nil ?_⟩
            rw [← hsuc.out] at hL10
            clear hL8 hL9 hL7 hB7 hB8 hB9 hB10' hg10' hb8 hb9 hcv7 hcv8 hcv9 hge7 h13'
            go_wp2
            go_roundw
            case rel => exact ⟨j + 1, by omega, by go_num, by go_num, hL10, hBx⟩
            case measure => simp [intOf]; omega
          · obtain rfl : n = j := by omega
            have hkoff : k + n = offP ps (i + 1) := hoff.out
            have hge34 := (hBj.cell 34).trans (pieceCells_ev _ _ _ hch _ _)
            by_cases hlast : i + 1 < ps.length
            · obtain ⟨hpi2, hn2, -⟩ := cuts_at hcuts.out (i + 1) hlast
              rw [← hkoff] at hpi2 hn2
              have hle2 := stepN_le width s first before ls1 qs1 (k + n)
              rw [hlen.out] at hle2
              have hpv2 : i + 1 < pvs.length := by rw [hpl.out]; exact hlast
              rw [List.drop_eq_getElem_cons hpv2, List.drop_eq_getElem_cons hlast] at hmn
              have hmn' := hmn
              obtain ⟨hi2, hlh2, hpm2, -, -, hmn2⟩ := hmn
              rw [← List.drop_eq_getElem_cons hpv2, ← List.drop_eq_getElem_cons hlast] at hmn'
              have hkl : k + n < ls1.length := by rw [hlen.out]; omega
              have hkq : k + n < qs1.length := by rw [hqlen.out]; omega
              have hl2 : ps[i + 1].ls[0]? = some ls1[k + n] := by rw [hpi2]; show ((ls1.drop (k + n)).take _)[0]? = _; rw [List.getElem?_take, if_pos hn2, List.getElem?_drop]; exact List.getElem?_eq_getElem hkl
              have hq2 : ps[i + 1].qs[0]? = some qs1[k + n] := by rw [hpi2]; show ((qs1.drop (k + n)).take _)[0]? = _; rw [List.getElem?_take, if_pos hn2, List.getElem?_drop]; exact List.getElem?_eq_getElem hkq
              have hls2 := (List.getElem?_eq_some_iff.1 hl2).1
              have hqs2 := (List.getElem?_eq_some_iff.1 hq2).1
              obtain ⟨ge2, ce2, gq2, cq2, vs2, css2, hev2, hpr2, hge2, hgq2, hcx1, hcx2, hcx3, hcx4, hoe2, hop2, hpt2, hit2, -, -⟩ := piece_form hpm2 hls2 hqs2
              have hvs2 : 0 < vs2.length := by rw [hpt2.1]; exact hls2
              have hcs2 : 0 < css2.length := by rw [hit2.1]; exact hqs2
              obtain ⟨A0, c0, hv0, h01, h02, h03, h04⟩ := hpt2.2 0 vs2[0] ls1[k + n] (List.getElem?_eq_getElem hvs2) hl2
              obtain ⟨W0, d0, hq0, h05, h06, h07, h08, h09⟩ := hit2.2 0 css2[0] qs1[k + n] (List.getElem?_eq_getElem hcs2) hq2
              have hvs20 : vs2[0]? = some (.slice A0 ls1[k + n].length c0) := by rw [← hv0]; exact List.getElem?_eq_getElem hvs2
              have htkl : lsi ++ [ls1[k + n]] = (ls1.drop k).take (n + 1) := by rw [List.take_add_one, List.getElem?_drop, List.getElem?_eq_getElem hkl, hlsi.out]; rfl
              have htkq : qsi ++ [qs1[k + n]] = (qs1.drop k).take (n + 1) := by rw [List.take_add_one, List.getElem?_drop, List.getElem?_eq_getElem hkq, hqsi.out]; rfl
              have h170 := hlong.out hkl
              rw [← htkl, ← htkq] at h170
              have hsn := hsl1 ls1[k + n] (List.getElem_mem hkl)
              have hqn := hsqi qs1[k + n] (List.getElem_mem hkq)
              have hrq2 : ∀ wy, Kp wp wy hib → wy.rangeAt gq2 0 (incCells qs1[k + n].size qs1[k + n].number W0 qs1[k + n].way.length d0) := fun wy hk => by
                rw [hpr2] at hop2
                have := (Rd.of_own (own_kp hop2 hk)).group (fun cs hcs => (hit2.kp hk).incs.three cs hcs) 0 hcs2 (by decide)
                rwa [hq0] at this
              have hce2 : ∀ wy, Kp wp wy hib → wy.cell? ⟨ge2, 0, none⟩ = some (.slice A0 ls1[k + n].length c0) := fun wy hk => by
                rw [hev2] at hoe2
                exact own_cell (own_kp hoe2 hk) hvs20
              have hrow2 : ∀ wy : World, wy.ownsRow w.heap.size 37 36 (.slice (some ⟨gl, 0, none⟩) ps.length cl) ps.length (psCells s pvs ps).flatten → wy.cell? ⟨gl, (i + 1) * 36 + 34, none⟩ = some (.slice (some ⟨ge2, 0, none⟩) ps[i + 1].ls.length ce2) ∧ wy.cell? ⟨gl, (i + 1) * 36 + 35, none⟩ = some (.slice (some ⟨gq2, 0, none⟩) ps[i + 1].qs.length cq2) := fun wy hy => by
                have := row_cells hy hpl.out h32.out (List.getElem?_eq_getElem hpv2) (List.getElem?_eq_getElem hlast)
                rw [hev2, hpr2] at this
                exact this.2
              obtain ⟨nl2, hnl2⟩ : ∃ x, x = ps[i + 1].ls.length := ⟨_, rfl⟩
              obtain ⟨nq2, hnq2⟩ : ∃ x, x = ps[i + 1].qs.length := ⟨_, rfl⟩
              rw [← hnl2] at hls2 hrow2
              rw [← hnq2] at hqs2 hrow2
              obtain ⟨l0, hl0⟩ : ∃ l, l = ls1[k + n] := ⟨_, rfl⟩
              obtain ⟨q0, hq0'⟩ : ∃ q, q = qs1[k + n] := ⟨_, rfl⟩
              rw [← hl0] at h01 h03 h170 hsn hce2
              rw [← hq0'] at h05 h07 h08 h170 hqn hrq2
              obtain ⟨i1, hi1⟩ : ∃ i1, i1 = i + 1 := ⟨_, rfl⟩
              rw [← hi1] at hrow2
              have hi1l : i1 < ps.length := by omega
              have hi1s : IntKind.i64.wrap ((i : Int) + 1) = (i1 : Int) := by rw [hi1, IntKind.wrap_i64]; have := hcuts.out.le; rw [hlen.out] at this; omega
              have hps2 : ps.length < 4294967296 := by have := hcuts.out.le; rw [hlen.out] at this; omega
              replace h170 := Lib.hid h170
              replace hi1 := Lib.hid hi1
              clear hl0 hq0' hnl2 hnq2 htkl htkq hl2 hq2 hev2 hpr2 hv0 hq0 hvs20 hpi2 hn2 hle2 hoe2 hop2 hpm2 hpt2 hit2 hvs2 hcs2 hcx1 hcx2 hcx3 hcx4 hkl hkq
              obtain ⟨i27, hi27, hz27, hs27, hy27⟩ := info_parts info_b27
              obtain ⟨i31, hi31, hz31, hs31, hy31⟩ := info_parts info_inc
              go_wp2
              have hLd := hLj.drew
              have hBd : Blk wr.drew g20 37 _ := hBj.drew
              clear hLj hBj hge34
              refine wp_region_plan [(0, true), (1, true), (2, true), (3, true), (4, true), (5, true), (6, true), (7, true), (8, true), (9, true), (10, false), (11, false), (12, true), (13, false)] 13 (fun wx => Blk wx g20 37 (pieceCells s (first + k) ch (.slice (some ⟨ge, 0, none⟩) n ce) (.slice (some ⟨gq, 0, none⟩) n cq)) ∧ wx.cell? ⟨gl, i1 * 36 + 34, none⟩ = some (.slice (some ⟨ge2, 0, none⟩) nl2 ce2) ∧ wx.cell? ⟨ge2, 0, none⟩ = some (.slice A0 l0.length c0)) (by kernel_rfl) (by kernel_rfl) rfl (by kernel_rfl) (by intro c a d v w h; cases d <;> exact h) ⟨hBd, (hrow2 _ hLd.row).1, hce2 _ (hLd.kp.mono hlh)⟩ ?_
              iterate 10 (refine plan_take rfl rfl ?_; apply Exists.intro; refine ⟨fun w' hS => ?_, ?_⟩; (have hc0 := (hS.1.cell 34).trans (pieceCells_ev _ _ _ hch _ _); have hc1 := hS.2.1; have hc2 := hS.2.2; clear hS; go_simp; rfl); simp only [List.getElem_toArray, List.getElem_cons_succ, List.getElem_cons_zero, Act.put, List.setIfInBounds_toArray, List.set_cons_succ, List.set_cons_zero])
              refine plan_loud rfl rfl ?_
              refine op_build_cell (.tmp 167) 24 27 i27 _ Tryd.underlying24 hi27 hz27 (.slice A0 l0.length c0) rfl rfl hs27 ?_
              intro g6 w7 hB6 hg6 _
              have hL7 := hLd.none hg6
              have hB7 := hBd.grown hg6 (by simp)
              refine ⟨.inr (.inr ⟨hB7, (hrow2 _ hL7.row).1, hce2 _ (hL7.kp.mono hlh)⟩), ?_⟩
              clear hLd hBd hg6
              simp only [Act.put, List.setIfInBounds_toArray, List.set_cons_succ, List.set_cons_zero]
              refine plan_loud rfl rfl ?_
              have hrd6 : Rd w7 (some ⟨g6, 0, none⟩) [.slice A0 l0.length c0] := Rd.of_blk hB6 0 1
              have hoe7 := own_kp hoe hL7.kp
              refine op_append (.tmp 159) (.tmp 168) 24 w.heap.size 27 i27 _ 1 24 Tryd.underlying24 hi27 hz27 hs27 hy27 rfl (by decide) (.slice (some ⟨ge, 0, none⟩) n ce) n vsi rfl (own_mono hoe7 hlo) (some ⟨g6, 0, none⟩) 1 1 [.slice A0 l0.length c0] rfl rfl hrd6 (by intro u hu; rw [List.mem_singleton.1 hu]; rfl) (by simp only [maxLen]; omega) (by omega) hL7.be.size ?_
              intro ev' w8 hown8 hg8 hr8
              have hL8 := hL7.turned hoe7 (by decide) (by decide) hg8 hlh (fun g e => ⟨Nat.le_trans hlo (hoe7.lt g e).1, .inl (hev g e)⟩)
              have hB8 := hB7.grown hg8 (fun e => own_ne hoe7 hB7 (by decide) e.symm)
              have hop8 := (own_kp hop hL7.kp).kept hg8 (own_own_ne (own_kp hop hL7.kp) hoe7 (by decide))
              have hpt8 := (hpt.kp hL7.kp).grown hg8 (own_typed hoe7) (by decide)
              have hit8 := (hit.kp hL7.kp).grown hg8 (own_typed hoe7) (by decide)
              refine ⟨.inr (.inr ⟨hB8, (hrow2 _ hL8.row).1, hce2 _ hL8.kp⟩), ?_⟩
              clear hrd6 hoe7 hL7 hB7 hB6 hg8 hr8
              simp only [Act.put, List.setIfInBounds_toArray, List.set_cons_succ, List.set_cons_zero]
              iterate 1 (refine plan_take rfl rfl ?_; apply Exists.intro; refine ⟨fun w' hS => ?_, ?_⟩; (clear hS; go_simp; rfl); simp only [List.getElem_toArray, List.getElem_cons_succ, List.getElem_cons_zero, Act.put, List.setIfInBounds_toArray, List.set_cons_succ, List.set_cons_zero])
              refine plan_loud rfl rfl ?_
              refine op_storeCell (.tmp 170) (.tmp 169) 24 g20 34 rfl ev' rfl (own_oneCell hown8).2 (own_oneCell hown8).1 size_s24 37 _ hB8 (by rw [pieceCells_length _ _ _ hch]; decide) ?_
              intro w9 hB9 hg9 _
              rw [piece_set_ev _ _ _ hch] at hB9
              have hL9 := hL8.side hg9 hB8 hg20
              have hown9 := hown8.kept hg9 (.inr (own_ne hown8 hB8 (by decide)))
              have hop9 := hop8.kept hg9 (.inr (own_ne hop8 hB8 (by decide)))
              have hpt9 := hpt8.grown hg9 (blk_typed hB8) (by decide)
              have hit9 := hit8.grown hg9 (blk_typed hB8) (by decide)
              refine ⟨.inr (.inl rfl), plan_nil ?_⟩
              clear hL8 hB8 hown8 hop8 hpt8 hit8 hg9 hce2
              go_wp2
              simp only [Act.put]
              have hLd := hL9.drew
              have hBd : Blk w9.drew g20 37 _ := hB9.drew
              have hownd : w9.drew.ownsRow w.heap.size 27 1 ev' (n + 1) (vsi ++ [.slice A0 l0.length c0]) := hown9
              have hopd : w9.drew.ownsRow lo 31 3 (.slice (some ⟨gq, 0, none⟩) n cq) n cssi.flatten := hop9
              have hptd : PartsT w9.drew lo vsi lsi := hpt9
              have hitd : IncsT w9.drew lo cssi qsi := hit9
              clear hL9 hB9 hown9 hop9 hpt9 hit9
              refine wp_region_plan [(0, true), (1, true), (2, true), (3, true), (4, true), (5, true), (6, true), (7, true), (8, true), (9, true), (10, false), (11, false), (12, true), (13, false)] 13 (fun wx => Blk wx g20 37 (pieceCells s (first + k) ch ev' (.slice (some ⟨gq, 0, none⟩) n cq)) ∧ wx.cell? ⟨gl, i1 * 36 + 35, none⟩ = some (.slice (some ⟨gq2, 0, none⟩) nq2 cq2) ∧ wx.rangeAt gq2 0 (incCells q0.size q0.number W0 q0.way.length d0)) (by kernel_rfl) (by kernel_rfl) rfl (by kernel_rfl) (by intro c a d v w h; cases d <;> exact h) ⟨hBd, (hrow2 _ hLd.row).2, hrq2 _ hLd.kp⟩ ?_
              iterate 9 (refine plan_take rfl rfl ?_; apply Exists.intro; refine ⟨fun w' hS => ?_, ?_⟩; (have hc0 := (hS.1.cell 35).trans (pieceCells_pr _ _ _ hch _ _); have hc1 := hS.2.1; clear hS; go_simp; rfl); simp only [List.getElem_toArray, List.getElem_cons_succ, List.getElem_cons_zero, Act.put, List.setIfInBounds_toArray, List.set_cons_succ, List.set_cons_zero])
              refine plan_take rfl rfl ⟨.agg (incCells q0.size q0.number W0 q0.way.length d0).toArray, fun w' hS => exec_load _ w' (.tmp 179) 31 _ Tryd.underlying31 rfl gq2 0 rfl (incCells q0.size q0.number W0 q0.way.length d0) size_inc hS.2.2, ?_⟩
              simp only [List.getElem_toArray, List.getElem_cons_succ, List.getElem_cons_zero, Act.put, List.setIfInBounds_toArray, List.set_cons_succ, List.set_cons_zero]
              refine plan_loud rfl rfl ?_
              refine op_build_agg (.tmp 180) 25 31 i31 _ Tryd.underlying25 hi31 hz31 (incCells q0.size q0.number W0 q0.way.length d0) rfl hs31 (Nat.succ_pos 2) (by show 3 ≤ 1000; decide) ?_
              intro g10' w10 hB10 hg10' _
              have hL10 := hLd.none hg10'
              have hBx := hBd.grown hg10' (by simp)
              have hown10 := hownd.kept hg10' (by cases hv : ev'.ownBlock with | none => exact .inl rfl | some _ => exact .inr (by simp))
              have hop10 := hopd.kept hg10' (.inr (by simp [Value.ownBlock]))
              have hpt10 := hptd.grown (t' := 37) hg10' (by simp) (by decide)
              have hit10 := hitd.grown (t' := 37) hg10' (by simp) (by decide)
              refine ⟨.inr (.inr ⟨hBx, (hrow2 _ hL10.row).2, hrq2 _ hL10.kp⟩), ?_⟩
              clear hLd hBd hg10' hownd hopd hptd hitd
              simp only [Act.put, List.setIfInBounds_toArray, List.set_cons_succ, List.set_cons_zero]
              refine plan_loud rfl rfl ?_
              have hrd10 : Rd w10 (some ⟨g10', 0, none⟩) (incCells q0.size q0.number W0 q0.way.length d0) := fun _ => ⟨g10', 0, rfl, hB10.range⟩
              refine op_append (.tmp 172) (.tmp 181) 25 w.heap.size 31 i31 _ 3 40 Tryd.underlying25 hi31 hz31 hs31 hy31 rfl (by decide) (.slice (some ⟨gq, 0, none⟩) n cq) n cssi.flatten rfl (own_mono hop10 hlo) (some ⟨g10', 0, none⟩) 1 1 (incCells q0.size q0.number W0 q0.way.length d0) rfl rfl hrd10 (inc_oneCell _ _ _ _ _) (by simp only [maxLen]; omega) (by omega) hL10.be.size ?_
              intro pr' w11 hown11 hg11 hr11
              have hL11 := hL10.turned hop10 (by decide) (by decide) hg11 (Nat.le_refl _) (fun g e => ⟨Nat.le_trans hlo (hop10.lt g e).1, .inl (hpr g e)⟩)
              have hB11 := hBx.grown hg11 (fun e => own_ne hop10 hBx (by decide) e.symm)
              have hev11 := hown10.kept hg11 (own_own_ne hown10 hop10 (by decide))
              have hpt11 := hpt10.grown hg11 (own_typed hop10) (by decide)
              have hit11 := hit10.grown hg11 (own_typed hop10) (by decide)
              refine ⟨.inr (.inr ⟨hB11, (hrow2 _ hL11.row).2, hrq2 _ hL11.kp⟩), ?_⟩
              clear hrd10 hB10 hL10 hBx hown10 hop10 hpt10 hit10 hg11 hr11
              simp only [Act.put, List.setIfInBounds_toArray, List.set_cons_succ, List.set_cons_zero]
              iterate 1 (refine plan_take rfl rfl ?_; apply Exists.intro; refine ⟨fun w' hS => ?_, ?_⟩; (clear hS; go_simp; rfl); simp only [List.getElem_toArray, List.getElem_cons_succ, List.getElem_cons_zero, Act.put, List.setIfInBounds_toArray, List.set_cons_succ, List.set_cons_zero])
              refine plan_loud rfl rfl ?_
              refine op_storeCell (.tmp 183) (.tmp 182) 25 g20 35 rfl pr' rfl (own_oneCell hown11).2 (own_oneCell hown11).1 size_s25 37 _ hB11 (by rw [pieceCells_length _ _ _ hch]; decide) ?_
              intro w12 hB12 hg12 _
              rw [piece_set_pr _ _ _ hch] at hB12
              have hL12 := hL11.side hg12 hB11 hg20
              have hev12 := hev11.kept hg12 (.inr (own_ne hev11 hB11 (by decide)))
              have hpr12 := hown11.kept hg12 (.inr (own_ne hown11 hB11 (by decide)))
              have hpt12 := hpt11.grown hg12 (blk_typed hB11) (by decide)
              have hit12 := hit11.grown hg12 (blk_typed hB11) (by decide)
              refine ⟨.inr (.inl rfl), plan_nil ?_⟩
              clear hL11 hB11 hown11 hev11 hpt11 hit11 hg12 hrq2 hrow2
              have hcl12 := Lib.hid (pieceCells_length s (first + k) ch hch ev' pr')
              have hr12 := hB12.range
              rw [show cssi.flatten ++ incCells q0.size q0.number W0 q0.way.length d0 = (cssi ++ [incCells q0.size q0.number W0 q0.way.length d0]).flatten by rw [List.flatten_append, List.flatten_singleton]] at hpr12
              go_wp2_with (first
                | ((with_reducible refine law_load_g ?_ _ Tryd.underlying37 ?_ g20 0 ?_ (pieceCells s (first + k) ch ev' pr') ?_ hr12 ?_); (rfl); (rfl); (rfl); (rw [hcl12.out]; exact size_piece)))
              refine (enc_own w12 s hs (first + k) ch hch (n + 1) lo _ _ ev' pr' (vsi ++ [.slice A0 l0.length c0]) (cssi ++ [incCells q0.size q0.number W0 q0.way.length d0]) (lsi ++ [l0]) (qsi ++ [q0]) hev12 hpr12
                (hpt12.snoc h01 h02 (h03.kp hL12.kp h04) (fun b o e => Nat.le_trans hlh (h04 b o e)))
                (hit12.snoc h05 h06 h07 (h08.kp hL12.kp h09) (fun b o e => Nat.le_trans hlh (h09 b o e)))
                (by rw [List.length_append, hlli.out]; rfl) (by rw [List.length_append, hlqi.out]; rfl) (Nat.succ_pos n) (by simp only [maxLen]; omega)
                (fun l hl => by rcases List.mem_append.1 hl with h | h; exact hsli l h; rw [List.mem_singleton.1 h]; exact hsn)
                (fun q hq => by rcases List.mem_append.1 hq with h | h; exact hsqi' q h; rw [List.mem_singleton.1 h]; exact hqn)).mono ?_
              rintro e w13 ⟨⟨u13, rfl⟩, hb13⟩
              rw [h170.out]
              have hL13 := hL12.below hb13
              rw [hkoff] at hL13
              clear hL12 hB12 hr12 hev12 hpr12 hpt12 hit12 hb13
              go_wp2
              go_roundw
              case rel => exact ⟨i + 1, hib, by omega, by first | rfl | rw [hkoff], by first | rw [← hi1.out] | go_num, Nat.le_trans hlo hlh, hmn', hL13⟩
              case measure => have hi1' := hi1.out; simp [intOf]; omega
            · have hps2 : ps.length < 4294967296 := by have := hcuts.out.le; rw [hlen.out] at this; omega
              rw [hkoff] at hLj
              go_wp2
              go_roundw
              case rel => exact ⟨i + 1, hib, by omega, by first | rfl | rw [hkoff], by go_num, Nat.le_trans hlo hlh, hmn, hLj.mono hlh⟩
              case measure => simp [intOf]; omega
      --]]
      · have hip : i = ps.length := by omega
        have hoffM : offP ps i = M := by rw [hip, offP_all, cuts_sum hcuts.out]
        rw [hoffM] at hL ⊢
        have htk : ls1.take M = ls1 := List.take_of_length_le (by rw [hlen.out]; omega)
        rw [htk] at hL
        have hbm : PcsMem wp wp.heap.size lo (pvs.drop i) (ps.drop i) := hmi
        clear hbm hmi hoffM htk hmem
        obtain ⟨chE, hchE⟩ : ∃ c, c = chainL width before ls1 := ⟨_, rfl⟩
        rw [← hchE] at hL
        replace hchE := Lib.hid hchE
        by_cases hM0 : M = 0
        · have hz : ((M : Int) == 0) = true := by rw [beq_iff_eq]; omega
          have hz1 : ((M : Int) != (M : Int)) = false := by rw [bne_eq_false_iff_eq]
          have hz2 : ((M : Int) == (M : Int)) = true := by rw [beq_iff_eq]
          go_wp2
          exact bodyPost_ret (results_tmp rfl _ _ _) rfl ⟨rfl, hL.be⟩
        · have hz : ((M : Int) == 0) = false := by rw [beq_eq_false_iff_ne]; omega
          have hz1 : ((M : Int) != (M : Int)) = false := by rw [bne_eq_false_iff_eq]
          have hgood := cuts_good (by rw [hlen.out]; exact hris.out) hcuts.out
          replace hgood := Lib.hid hgood
          have hfM : 0 ≤ first ∧ first + (M : Int) ≤ 1099511627776 := by
            obtain ⟨_, h2, h3⟩ := cuts_at hcuts.out (ps.length - 1) (by
              rcases Nat.eq_zero_or_pos ps.length with h | h
              · have := cuts_sum hcuts.out; rw [List.eq_nil_of_length_eq_zero h] at this; simp at this; omega
              · omega)
            have h4 := step_facts (width := width) (before := before) (ls := ls1) (qs := qs1) (s := s) (first := first) (k := offP ps (ps.length - 1)) rfl h2
            have h5 : ps.length - 1 + 1 = ps.length := by
              rcases Nat.eq_zero_or_pos ps.length with h | h
              · have := cuts_sum hcuts.out; rw [List.eq_nil_of_length_eq_zero h] at this; simp at this; omega
              · omega
            rw [h5, offP_all, cuts_sum hcuts.out] at h3
            have hb := hbeg.out
            unfold beginsB at hb
            simp at hb
            omega
          go_wp2_with (first
            | (go_at_call 12; refine (within_any _ att M (by omega)).mono ?_; rintro e wf ⟨⟨r, rfl, hr⟩, hwf⟩; rw [hwf]; clear hwf wf))
          have hLd := hL.drew
          have hHd := Lib.hid (show 32 = (bvs before).length from Hl.out)
          have hA3 := ((hA1.below hLd.be (Nat.le_refl _)).parts_drop 0 c1 (by rw [HN1.out]; exact hMc1)).take r
          rw [List.drop_zero] at hA3
          have hB3 := ((hB1.below hLd.be (Nat.le_refl _)).incs_drop hQ1.three 0 d1 (by rw [HM1.out]; exact hKd1)).take (r * 3)
          rw [List.drop_zero, ← flatten_take hQ1.three] at hB3
          have hws : waysLen (qs1.take r) r < 4294967296 := by
            have := waysLen_cut qs1 0 r M (by omega)
            rw [List.drop_zero] at this
            omega
          have hpcs := pieces_any wr.drew (tab_below htab hLd.be (Nat.le_refl _)) width s hs first before hbf r r (cutA A 0 c1 1) c1 (vs1.take r) (ls1.take r) (cutA B 0 d1 3) d1 (css1.take r) (qs1.take r) hA3 ((hP1.below hLd.be (Nat.le_refl _)).take r) hB3 ((hQ1.below hLd.be (Nat.le_refl _)).take r)
            (Lib.hid (by rw [List.length_take, HN1.out]; omega)) (Lib.hid (by rw [List.length_take, HM1.out]; omega)) (by omega) hcm1 (by omega) hdm1 (by omega) (by omega) (fun l hl => hsl1 l (List.mem_of_mem_take hl)) hws
          clear hA3 hB3 hws hL
          refine wp_region_plan [(0, true), (1, true), (2, true), (3, true), (4, true), (5, true), (6, true), (7, true), (8, true), (9, true), (10, false), (11, true), (12, true), (13, true), (14, true), (15, false)] 15 (fun wx => Blk wx g10 23 (bvs before)) (by kernel_rfl) (by kernel_rfl) rfl (by kernel_rfl) (by intro c a d v w h; cases d <;> exact h) hLd.b10 ?_
          iterate 3 (refine plan_take rfl rfl ?_; apply Exists.intro; refine ⟨fun w' hS => ?_, ?_⟩; (clear hS; go_simp; rfl); simp only [List.getElem_toArray, List.getElem_cons_succ, List.getElem_cons_zero, Act.put, List.setIfInBounds_toArray, List.set_cons_succ, List.set_cons_zero])
          refine plan_take rfl rfl ⟨.agg (bvs before).toArray, fun w' hS => exec_load _ w' (.tmp 10) 23 _ Tryd.underlying23 rfl g10 0 rfl (bvs before) (by rw [← Hl.out]; exact size_digest) hS.range, ?_⟩
          simp only [List.getElem_toArray, List.getElem_cons_succ, List.getElem_cons_zero, Act.put, List.setIfInBounds_toArray, List.set_cons_succ, List.set_cons_zero]
          iterate 2 (refine plan_take rfl rfl ?_; apply Exists.intro; refine ⟨fun w' hS => ?_, ?_⟩; (clear hS; go_simp; rfl); simp only [List.getElem_toArray, List.getElem_cons_succ, List.getElem_cons_zero, Act.put, List.setIfInBounds_toArray, List.set_cons_succ, List.set_cons_zero])
          refine plan_take rfl rfl ⟨.slice (cutA A 0 c1 1) r c1, fun w' hS => exec_to _ w' 24 27 1 Tryd.underlying24 size_bytes (.tmp 211) (.tmp 212) A M c1 r rfl rfl (by omega), ?_⟩
          simp only [List.getElem_toArray, List.getElem_cons_succ, List.getElem_cons_zero, Act.put, List.setIfInBounds_toArray, List.set_cons_succ, List.set_cons_zero]
          iterate 2 (refine plan_take rfl rfl ?_; apply Exists.intro; refine ⟨fun w' hS => ?_, ?_⟩; (clear hS; go_simp; rfl); simp only [List.getElem_toArray, List.getElem_cons_succ, List.getElem_cons_zero, Act.put, List.setIfInBounds_toArray, List.set_cons_succ, List.set_cons_zero])
          refine plan_take rfl rfl ⟨.slice (cutA B 0 d1 3) r d1, fun w' hS => exec_to _ w' 25 31 3 Tryd.underlying25 size_inc (.tmp 214) (.tmp 215) B M d1 r rfl rfl (by omega), ?_⟩
          simp only [List.getElem_toArray, List.getElem_cons_succ, List.getElem_cons_zero, Act.put, List.setIfInBounds_toArray, List.set_cons_succ, List.set_cons_zero]
          refine plan_loud rfl rfl ?_
          go_simp
          refine hpcs.mono ?_
          rintro e wa hend
          rcases hend with ⟨hba, ⟨rfl, hbad⟩ | ⟨av, psa, loa, rfl, -, -, -, hcutsa, hloa, pva, hrowa, hmema, h32a⟩⟩
          · exfalso
            rcases hbad with h | h | h | ⟨k, ps', hk, _, _, h0⟩
            · exact h rfl
            · rw [hbeg.out] at h; cases h
            · exact h (rises_take hris.out r hr)
            · have := step_pos (width := width) (before := before) (ls := ls1.take r) (qs := qs1.take r) hbeg.out (by rw [List.length_take, hlen.out]; omega) (good_take hk (hgood.out k (by omega)))
              omega
          · have hLa := hLd.below hba
            have hrowa' := own_mono hrowa hLd.be.size
            have hloa' : w.heap.size ≤ loa := Nat.le_trans hLd.be.size hloa
            have hpla := Lib.hid hmema.length
            replace hcutsa := Lib.hid hcutsa
            replace h32a := Lib.hid h32a
            have hlva : ∀ g, av.ownBlock = some g → g < wa.heap.size := fun g e => (hrowa.lt g e).2
            refine ⟨hLa.b10, ?_⟩
            clear hpcs hLd hba hrowa hloa
            iterate 4 (refine plan_take rfl rfl ?_; apply Exists.intro; refine ⟨fun w' hS => ?_, ?_⟩; (clear hS; go_simp; rfl); simp only [List.getElem_toArray, List.getElem_cons_succ, List.getElem_cons_zero, Act.put, List.setIfInBounds_toArray, List.set_cons_succ, List.set_cons_zero])
            refine plan_loud rfl rfl ?_
            go_simp
            refine plan_nil ?_
            have hlea := hcutsa.out.le.1
            have hsuma := cuts_sum hcutsa.out
            have havf : ∃ Aa ca, av = .slice Aa psa.length ca ∧ psa.length ≤ ca ∧ ca ≤ maxLen := by
              rcases hrowa'.2 with ⟨rfl, h0⟩ | ⟨g, cap, cur, rfl, _, _, h1, h2, _⟩
              · exact ⟨none, 0, by rw [h0], by omega, by simp [maxLen]⟩
              · exact ⟨_, _, rfl, h1, h2⟩
            obtain ⟨Aa, ca, rfl, hca1, hca2⟩ := havf
            by_cases hr0 : r = 0
            · have hz3 : ((r : Int) == 0) = true := by rw [beq_iff_eq]; omega
              have hz4 : ((psa.length : Int) == 0) = true := by rw [beq_iff_eq]; omega
              go_wp2
              exact bodyPost_ret (results_tmp rfl _ _ _) rfl ⟨rfl, hLa.be⟩
            · have hz3 : ((r : Int) == 0) = false := by rw [beq_eq_false_iff_ne]; omega
              have hpsa0 : 0 < psa.length := by
                rcases Nat.eq_zero_or_pos psa.length with h | h
                · rw [List.eq_nil_of_length_eq_zero h] at hsuma; simp at hsuma; omega
                · exact h
              replace hsuma := Lib.hid hsuma
              go_wp2_with (first
                | ((with_reducible refine law_load_g ?_ _ Tryd.underlying23 ?_ g10 0 ?_ (bvs before) ?_ hLa.b10.range ?_); (rfl); (rfl); (rfl); (rw [← Hl.out]; exact size_digest))
                | ((with_reducible refine law_alloc (dst := some 27) 23 i23 _ hi23 hz23 (List.replicate 32 (.int .u8 0)) ?_ ?_); (rfl); intro g27 w4 hg27 hB27 hr4 hs4)
                | ((with_reducible refine law_store (.tmp 27) (.tmp 233) 23 g27 0 ?_ (bvs before) ?_ ?_ 23 (List.replicate 32 (.int .u8 0)) hB27 ?_ (oneCell_bvs _) ?_); (rfl); (rfl); (rw [← Hl.out]; exact size_digest); (rw [← Hl.out]; decide); intro w5 hB5 hr5 hs5; rw [lay_all _ _ (by rw [← Hl.out]; rfl)] at hB5))
              have hgs := grown_skip hr4 hr5 (by rw [hg27.out]; exact Nat.le_refl _)
              have hM0' : Lx w wa g18 g27 chE before s (.slice Aa psa.length ca) psa pva loa w5 :=
                ⟨hLa.b18.grown hgs (by simp), hB5, hrowa'.kept hgs (by cases hv : (Value.slice Aa psa.length ca).ownBlock with | none => exact .inl rfl | some _ => exact .inr (by simp)), (Kp.refl wa loa).grown hgs (by simp), hLa.be.trans (below_of_grown hgs hLa.be.size (by simp)), by have := hLa.b18.lt; rw [hg27.out]; omega, by rw [hg27.out]; exact Nat.le_refl _, hLa.be.size, hlva⟩
              clear hgs hr4 hr5 hs4 hs5 hB27 hB5 hLa hg27 hrowa' hlva
              obtain ⟨bA, oA, rfl, hcA⟩ := hA1 (by intro e; have := HN1.out; rw [e] at this; simp at this; omega)
              go_loopw [28] (fun jv wx => ∃ j : Nat, j ≤ r ∧ jv = .int .i64 (j : Int) ∧ Lx w wa g18 g27 chE (chainL width before (ls1.take j)) s (.slice Aa psa.length ca) psa pva loa wx) (fun jv _ => r - (intOf jv).toNat)
              case atStart => exact ⟨0, Nat.zero_le _, rfl, hM0'⟩
              case round =>
                clear hM0'
                obtain ⟨j, hj, rfl, hLj⟩ := hrel
                by_cases hjr : j < r
                --[[
                · have hjM : j < M := by omega
                  have hlk : j < ls1.length := by rw [hlen.out]; omega
                  have hvk : j < vs1.length := by rw [HN1.out]; omega
                  obtain ⟨Ak, ck, hvk', h1, h2, h3⟩ := hP1.2 j vs1[j] ls1[j] (List.getElem?_eq_getElem hvk) (List.getElem?_eq_getElem hlk)
                  have hce : wr.cell? ⟨bA, oA + j, none⟩ = some (.slice Ak ls1[j].length ck) := by
                    have := hcA j vs1[j] (List.getElem?_eq_getElem hvk)
                    rw [hvk'] at this
                    rw [hLj.be.cell (p := ⟨bA, _, none⟩) (block_lt_of_cell this)]
                    exact this
                  have hsuc := chainL_succ width before ls1 j hlk
                  have hsn := hsl1 ls1[j] (List.getElem_mem hlk)
                  obtain ⟨l, hll⟩ : ∃ l, l = ls1[j] := ⟨_, rfl⟩
                  rw [← hll] at hce hsuc h1 h3 hsn
                  have hcl2 := chainL_length width before hbf (ls1.take j)
                  obtain ⟨cj, hcje⟩ : ∃ cj, cj = chainL width before (ls1.take j) := ⟨_, rfl⟩
                  rw [← hcje] at hsuc hLj hcl2
                  replace hsuc := Lib.hid hsuc
                  have Hj := Lib.hid (show 32 = (bvs cj).length by rw [bvs_length, hcl2])
                  have hbl2 := ofL_length width 2 [cj, ofL width 0 [l]]
                  have hll3 := ofL_length width 0 [l]
                  have Hj2 := Lib.hid (show 32 = (bvs (ofL width 2 [cj, ofL width 0 [l]])).length by rw [bvs_length, hbl2])
                  have h3' : Rd wr.drew Ak (bvs l) := h3.below hLj.drew.be (Nat.le_refl _)
                  have hce' : wr.drew.cell? ⟨bA, oA + j, none⟩ = some (.slice Ak l.length ck) := hce
                  clear hll hcje hvk' hlk hvk h3
                  have hLd := hLj.drew
                  clear hLj hce
                  go_wp2
                  refine wp_region_plan [(0, true), (1, true), (2, true), (3, true), (4, true), (5, true), (6, true), (7, false), (8, false), (9, false)] 9 (fun wx => Blk wx g27 23 (bvs cj) ∧ wx.cell? ⟨bA, oA + j, none⟩ = some (.slice Ak l.length ck)) (by kernel_rfl) (by kernel_rfl) rfl (by kernel_rfl) (by intro c a d v w h; cases d <;> exact h) ⟨hLd.b18, hce'⟩ ?_
                  iterate 1 (refine plan_take rfl rfl ?_; apply Exists.intro; refine ⟨fun w' hS => ?_, ?_⟩; (have hc1 := hS.2; clear hS; go_simp; rfl); simp only [List.getElem_toArray, List.getElem_cons_zero, Act.put, List.setIfInBounds_toArray, List.set_cons_succ, List.set_cons_zero])
                  refine plan_take rfl rfl ⟨.agg (bvs cj).toArray, fun w' hS => exec_load _ w' (.tmp 27) 23 _ Tryd.underlying23 rfl g27 0 rfl (bvs cj) (by rw [← Hj.out]; exact size_digest) hS.1.range, ?_⟩
                  simp only [List.getElem_toArray, List.getElem_cons_succ, List.getElem_cons_zero, Act.put, List.setIfInBounds_toArray, List.set_cons_succ, List.set_cons_zero]
                  iterate 5 (refine plan_take rfl rfl ?_; apply Exists.intro; refine ⟨fun w' hS => ?_, ?_⟩; (have hc1 := hS.2; clear hS; go_simp; rfl); simp only [List.getElem_toArray, List.getElem_cons_succ, List.getElem_cons_zero, Act.put, List.setIfInBounds_toArray, List.set_cons_succ, List.set_cons_zero])
                  refine plan_loud rfl rfl ?_
                  go_simp
                  refine (leaf_any wr.drew width Ak l.length ck l ⟨Ak, ck, rfl, h1, h2, h3'⟩ (by omega) (tab_below htab hLd.be (Nat.le_refl _))).mono ?_
                  rintro e w8 ⟨rfl, hb8⟩
                  have hL8 := hLd.below hb8
                  have hcv8 : w8.cell? ⟨bA, oA + j, none⟩ = some (.slice Ak l.length ck) := by rw [hb8.cell (p := ⟨bA, _, none⟩) (block_lt_of_cell hce')]; exact hce'
                  refine ⟨⟨hL8.b18, hcv8⟩, ?_⟩
                  refine plan_loud rfl rfl ?_
                  go_simp
                  refine (link_any w8 width cj (ofL width 0 [l]) hcl2 hll3 (tab_below htab hL8.be (Nat.le_refl _))).mono ?_
                  rintro e w9 ⟨rfl, hb9⟩
                  have hL9 := hL8.below hb9
                  have hcv9 : w9.cell? ⟨bA, oA + j, none⟩ = some (.slice Ak l.length ck) := by rw [hb9.cell (p := ⟨bA, _, none⟩) (block_lt_of_cell hcv8)]; exact hcv8
                  refine ⟨⟨hL9.b18, hcv9⟩, ?_⟩
                  refine plan_loud rfl rfl ?_
                  refine op_store (.tmp 27) (.tmp 247) 23 g27 0 rfl (bvs (ofL width 2 [cj, ofL width 0 [l]])) rfl (by rw [← Hj2.out]; exact size_digest) 23 (bvs cj) hL9.b18 (by rw [← Hj2.out, ← Hj.out]; decide) (oneCell_bvs _) ?_
                  intro w10 hB10' hg10' _
                  rw [lay_all _ _ (by rw [← Hj2.out, ← Hj.out])] at hB10'
                  have hL10 := hL9.chain hg10' hB10'
                  refine ⟨.inr (.inl rfl), plan_nil ?_⟩
                  rw [← hsuc.out] at hL10
                  clear hL8 hL9 hLd hB10' hg10' hb8 hb9 hcv8 hcv9 hce' h3'
                  go_wp2
                  go_roundw
                  case rel => exact ⟨j + 1, by omega, by go_num, hL10⟩
                  case measure => simp [intOf]; omega
                --]]
                · have hjr' : j = r := by omega
                  rw [hjr'] at hLj ⊢
                  clear hjr' hjr hj
                  have hml := chainL_length width before hbf (ls1.take r)
                  have hbl := begins_later (ls := ls1) (width := width) hbeg.out r
                  obtain ⟨mid, hmid⟩ : ∃ m, m = chainL width before (ls1.take r) := ⟨_, rfl⟩
                  rw [← hmid] at hLj hml hbl
                  replace hmid := Lib.hid hmid
                  replace hbl := Lib.hid hbl
                  have Hmid := Lib.hid (show 32 = (bvs mid).length by rw [bvs_length, hml])
                  have hfr : IntKind.i64.wrap (first + (r : Int)) = first + (r : Int) := by rw [IntKind.wrap_i64]; omega
                  go_wp2
                  have hLd := hLj.drew
                  clear hLj
                  have hA4 := (hA1.below hLd.be (Nat.le_refl _)).parts_drop r c1 (by rw [HN1.out]; exact hMc1)
                  have hB4 := (hB1.below hLd.be (Nat.le_refl _)).incs_drop hQ1.three r d1 (by rw [HM1.out]; exact hKd1)
                  have hws : waysLen (qs1.drop r) (M - r) < 4294967296 := by
                    have := waysLen_cut qs1 r (M - r) M (by omega)
                    rw [List.take_of_length_le (by rw [List.length_drop, hqlen.out]; omega)] at this
                    omega
                  have hpcs := pieces_any wr.drew (tab_below htab hLd.be (Nat.le_refl _)) width s hs (first + r) mid hml (M - r) (M - r) (cutA (some ⟨bA, oA, none⟩) r c1 1) (c1 - r) (vs1.drop r) (ls1.drop r) (cutA B r d1 3) (d1 - r) (css1.drop r) (qs1.drop r) hA4 ((hP1.below hLd.be (Nat.le_refl _)).drop r) hB4 ((hQ1.below hLd.be (Nat.le_refl _)).drop r)
                    (Lib.hid (by rw [List.length_drop, HN1.out])) (Lib.hid (by rw [List.length_drop, HM1.out])) (by omega) (by omega) (by omega) (by omega) (by omega) (by omega) (fun l hl => hsl1 l (List.mem_of_mem_drop hl)) hws
                  clear hA4 hB4 hws
                  refine wp_region_plan [(0, true), (1, true), (2, true), (3, true), (4, true), (5, true), (6, true), (7, true), (8, true), (9, true), (10, true), (11, true), (12, false), (13, true), (14, true), (15, true), (16, true), (17, false)] 17 (fun wx => Blk wx g27 23 (bvs mid)) (by kernel_rfl) (by kernel_rfl) rfl (by kernel_rfl) (by intro c a d v w h; cases d <;> exact h) hLd.b18 ?_
                  iterate 5 (refine plan_take rfl rfl ?_; apply Exists.intro; refine ⟨fun w' hS => ?_, ?_⟩; (clear hS; go_simp; rfl); simp only [List.getElem_toArray, List.getElem_cons_succ, List.getElem_cons_zero, Act.put, List.setIfInBounds_toArray, List.set_cons_succ, List.set_cons_zero])
                  refine plan_take rfl rfl ⟨.agg (bvs mid).toArray, fun w' hS => exec_load _ w' (.tmp 27) 23 _ Tryd.underlying23 rfl g27 0 rfl (bvs mid) (by rw [← Hmid.out]; exact size_digest) hS.range, ?_⟩
                  simp only [List.getElem_toArray, List.getElem_cons_succ, List.getElem_cons_zero, Act.put, List.setIfInBounds_toArray, List.set_cons_succ, List.set_cons_zero]
                  iterate 2 (refine plan_take rfl rfl ?_; apply Exists.intro; refine ⟨fun w' hS => ?_, ?_⟩; (clear hS; go_simp; rfl); simp only [List.getElem_toArray, List.getElem_cons_succ, List.getElem_cons_zero, Act.put, List.setIfInBounds_toArray, List.set_cons_succ, List.set_cons_zero])
                  refine plan_take rfl rfl ⟨.slice (cutA (some ⟨bA, oA, none⟩) r c1 1) (M - r) (c1 - r), fun w' hS => exec_from _ w' 24 27 1 Tryd.underlying24 size_bytes (.tmp 255) (.tmp 256) (some ⟨bA, oA, none⟩) M c1 r rfl rfl hr, ?_⟩
                  simp only [List.getElem_toArray, List.getElem_cons_succ, List.getElem_cons_zero, Act.put, List.setIfInBounds_toArray, List.set_cons_succ, List.set_cons_zero]
                  iterate 2 (refine plan_take rfl rfl ?_; apply Exists.intro; refine ⟨fun w' hS => ?_, ?_⟩; (clear hS; go_simp; rfl); simp only [List.getElem_toArray, List.getElem_cons_succ, List.getElem_cons_zero, Act.put, List.setIfInBounds_toArray, List.set_cons_succ, List.set_cons_zero])
                  refine plan_take rfl rfl ⟨.slice (cutA B r d1 3) (M - r) (d1 - r), fun w' hS => exec_from _ w' 25 31 3 Tryd.underlying25 size_inc (.tmp 258) (.tmp 259) B M d1 r rfl rfl hr, ?_⟩
                  simp only [List.getElem_toArray, List.getElem_cons_succ, List.getElem_cons_zero, Act.put, List.setIfInBounds_toArray, List.set_cons_succ, List.set_cons_zero]
                  refine plan_loud rfl rfl ?_
                  go_simp
                  refine hpcs.mono ?_
                  rintro e wb hend
                  rcases hend with ⟨hbb, ⟨rfl, hbad⟩ | ⟨bv, psb, lob, rfl, -, -, -, hcutsb, hlob, pvb, hrowb, hmemb, h32b⟩⟩
                  · exfalso
                    rcases hbad with h | h | h | ⟨k, ps', hk, _, _, h0⟩
                    · exact h rfl
                    · rw [hbl.out] at h; cases h
                    · exact h (rises_drop hris.out r)
                    · have := step_pos (width := width) (before := mid) (first := first + r) (ls := ls1.drop r) (qs := qs1.drop r) hbl.out (by rw [List.length_drop, hlen.out]; exact hk) (good_drop (hgood.out (r + k) (by omega)))
                      omega
                  · have hLb := hLd.below hbb
                    have hrowb' := own_mono hrowb hLd.be.size
                    have hlob' : w.heap.size ≤ lob := Nat.le_trans hLd.be.size hlob
                    have hplb := Lib.hid hmemb.length
                    replace hcutsb := Lib.hid hcutsb
                    replace h32b := Lib.hid h32b
                    refine ⟨hLb.b18, ?_⟩
                    clear hpcs hLd hbb hrowb hlob
                    iterate 4 (refine plan_take rfl rfl ?_; apply Exists.intro; refine ⟨fun w' hS => ?_, ?_⟩; (clear hS; go_simp; rfl); simp only [List.getElem_toArray, List.getElem_cons_succ, List.getElem_cons_zero, Act.put, List.setIfInBounds_toArray, List.set_cons_succ, List.set_cons_zero])
                    refine plan_loud rfl rfl ?_
                    go_simp
                    refine plan_nil ?_
                    have hleb := hcutsb.out.le
                    rw [List.length_drop, hlen.out] at hleb
                    have hsumb := Lib.hid (cuts_sum hcutsb.out)
                    have hbvf : ∃ Ab cb, bv = .slice Ab psb.length cb := by
                      rcases hrowb'.2 with ⟨rfl, h0⟩ | ⟨g, cap, cur, rfl, _, _, h1, h2, _⟩
                      · exact ⟨none, 0, by rw [h0]⟩
                      · exact ⟨_, _, rfl⟩
                    obtain ⟨Ab, cb, rfl⟩ := hbvf
                    have hrdb := Rd.of_own hrowb'
                    have h1b := ps_oneCell s hmemb
                    have hlnb := hrowb'.1
                    have hrowab := hLb.row
                    have hma := hmema.kp hLb.kp
                    have hsz2 : psa.length + psb.length ≤ 2200 := by omega
                    obtain ⟨i37, hi37, hz37, hs37, hy37⟩ := info_parts info_piece
                    have hpl0 := Lib.hid (fun (ev pr : Value) => pieceCells_length ByteArray.empty 0 (List.replicate 32 0) (by simp) ev pr)
                    have hzc := Lib.hid (show (Value.agg (pieceCells ByteArray.empty 0 (List.replicate 32 0) (.slice none 0 0) (.slice none 0 0)).toArray).cells.size = 36 from hpl0.out _ _)
                    have Hln := Lib.hid hlnb
                    clear hlnb hrowb' hmema
                    go_wp2_with (first
                      | ((with_reducible refine law_append (.tmp 266) (.tmp 267) 32 w.heap.size 37 i37 _ 36 104 Tryd.underlying32 hi37 hz37 hs37 hy37 ?_ ?_ (.slice Aa psa.length ca) psa.length _ ?_ hrowab Ab psb.length cb (psCells s pvb psb).flatten ?_ ?_ hrdb h1b ?_ ?_ ?_ ?_); (exact hzc.out); (decide); (rfl); (rfl); (exact Hln.out); (simp only [maxLen]; omega); (omega); (exact hLb.be.size); intro cv wc hrowc hgc hrc))
                    have hax : ∀ l, Aside wb l (Value.slice Aa psa.length ca).ownBlock := fun l g e => .inr (own_typed hrowab g e)
                    have hAll := AllMem.append (hma.grown hgc (hax _)) (hmemb.grown hgc (hax _)) hloa' hlob'
                    have hEc := hLb.b10.grown hgc (fun e => own_ne hrowab hLb.b10 (by decide) e.symm)
                    have hbc : Below w.heap.size w wc := hLb.be.trans (below_of_grown hgc hLb.be.size (fun g e => (hrowab.lt g e).1))
                    rw [← List.flatten_append, ← psCells_append s pvb psb pva psa hpla.out, ← List.length_append] at hrowc
                    have h32c := Lib.hid (show ∀ p ∈ psa ++ psb, p.before.length = 32 from fun p hp => (List.mem_append.1 hp).elim (h32a.out p) (h32b.out p))
                    have hplc := Lib.hid (show (pva ++ pvb).length = (psa ++ psb).length by rw [List.length_append, List.length_append, hpla.out, hplb.out])
                    have hsumc := Lib.hid (show offP (psa ++ psb) (psa ++ psb).length = M by rw [offP_all, List.map_append, List.sum_append, hsuma.out, hsumb.out]; omega)
                    have hend := Lib.hid (show ∀ p, (psa ++ psb)[(psa ++ psb).length - 1]? = some p → chainL width p.before p.ls = chE from fun p hp => by
                      rcases Nat.eq_zero_or_pos psb.length with h | h
                      · have hb0 : psb = [] := List.eq_nil_of_length_eq_zero h
                        rw [hb0, List.append_nil] at hp
                        have hsb := hsumb.out
                        rw [hb0] at hsb
                        have hrM : M - r = 0 := hsb.symm
                        have := cuts_last (ls := ls1.take r) (by rw [List.length_take, hlen.out, show min r M = r by omega]; exact hcutsa.out) hpsa0
                        rw [List.getElem?_eq_getElem (by omega)] at hp
                        rw [Option.some.inj hp] at this
                        rw [this, hchE.out, List.take_of_length_le (by rw [hlen.out]; omega)]
                      · have := cuts_last (ls := ls1.drop r) (by rw [List.length_drop, hlen.out]; exact hcutsb.out) h
                        rw [List.length_append, List.getElem?_append_right (by omega), show psa.length + psb.length - 1 - psa.length = psb.length - 1 by omega, List.getElem?_eq_getElem (by omega)] at hp
                        rw [Option.some.inj hp] at this
                        rw [this, hmid.out, ← chainL_append, List.take_append_drop, hchE.out])
                    have hsub := Lib.hid (show ∀ p ∈ psa ++ psb, ∀ l ∈ p.ls, l.length < 4294967296 from fun p hp l hl => (List.mem_append.1 hp).elim (fun h => hsl1 l (List.mem_of_mem_take (cuts_mem hcutsa.out p h l hl))) (fun h => hsl1 l (List.mem_of_mem_drop (cuts_mem hcutsb.out p h l hl))))
                    have hsz3 : (psa ++ psb).length ≤ 2200 := by rw [List.length_append]; exact hsz2
                    have hpos3 : 0 < (psa ++ psb).length := by rw [List.length_append]; omega
                    obtain ⟨gc, cc, rfl, hcc1, hcc2, hgc0, hgcl, -⟩ := row_at hrowc hplc.out h32c.out hpos3
                    generalize psa ++ psb = psc at hrowc h32c hplc hsumc hend hsub hsz3 hpos3 hAll hcc1 ⊢
                    generalize pva ++ pvb = pvc at hrowc hplc hAll
                    clear hrc hgc hax hma hmemb hrdb h1b hrowab hcutsa hcutsb hsuma hsumb hpla hplb h32a h32b hLb hca1 hca2 hlea hleb hloa' hlob' Hln hsz2 hpsa0 hbl hmid Hmid hml hfr hcuts hris h32 hpl
                    obtain ⟨m, hm⟩ : ∃ m, psc.length = m + 1 := ⟨psc.length - 1, by omega⟩
                    go_loopw [17, 31] (fun nv iv wx => ∃ i : Nat, i ≤ psc.length ∧ nv = .int .i64 (offP psc i : Nat) ∧ iv = .int .i64 (i : Int) ∧ wx = wc) (fun _ iv _ => psc.length - (intOf iv).toNat)
                    case atStart => exact ⟨0, Nat.zero_le _, rfl, rfl, rfl⟩
                    case round =>
                      obtain ⟨i, hi, rfl, rfl, hwr⟩ := hrel
                      rw [hwr]
                      clear hwr
                      by_cases hil : i < psc.length
                      · have hiv : i < pvc.length := by rw [hplc.out]; exact hil
                        obtain ⟨lo', -, hpc⟩ := hAll i pvc[i] psc[i] (List.getElem?_eq_getElem hiv) (List.getElem?_eq_getElem hil)
                        obtain ⟨Ae, ce, hev, hce1, hce2⟩ := pc_len hpc
                        have hcell := (row_cells hrowc hplc.out h32c.out (List.getElem?_eq_getElem hiv) (List.getElem?_eq_getElem hil)).2.1
                        rw [hev] at hcell
                        have hof := offP_succ psc i hil
                        have hof2 := offP_le psc (show i + 1 ≤ psc.length by omega) (Nat.le_refl _)
                        rw [hsumc.out] at hof2
                        obtain ⟨nl, hnl⟩ : ∃ n, n = psc[i].ls.length := ⟨_, rfl⟩
                        rw [← hnl] at hcell hof
                        replace hof := Lib.hid hof
                        have hof3 : offP psc i + nl ≤ 2200 := by rw [← hof.out]; omega
                        clear hnl hev hce1 hpc hiv
                        go_wp2
                        go_roundw
                        case rel => exact ⟨i + 1, by omega, by rw [hof.out]; go_num, by go_num, by trivial⟩
                        case measure => simp [intOf]; omega
                      · have him : i = m + 1 := by omega
                        have hiM : offP psc i = M := by rw [him, ← hm]; exact hsumc.out
                        rw [hiM, him]
                        have hmv : m < pvc.length := by rw [hplc.out]; omega
                        have hmp : m < psc.length := by omega
                        obtain ⟨lo', hlo', hpc⟩ := hAll m pvc[m] psc[m] (List.getElem?_eq_getElem hmv) (List.getElem?_eq_getElem hmp)
                        have hri := (row_cells hrowc hplc.out h32c.out (List.getElem?_eq_getElem hmv) (List.getElem?_eq_getElem hmp)).1
                        have hch := h32c.out psc[m] (List.getElem_mem hmp)
                        have hslp := hsub.out psc[m] (List.getElem_mem hmp)
                        have hlast := hend.out psc[m] (by rw [hm]; exact List.getElem?_eq_getElem hmp)
                        obtain ⟨⟨fp, ch, lsp, qsp⟩, hp⟩ : ∃ p, p = psc[m] := ⟨_, rfl⟩
                        obtain ⟨⟨ev, pr⟩, hv⟩ : ∃ v, v = pvc[m] := ⟨_, rfl⟩
                        rw [← hp] at hpc hri hch hlast hslp
                        rw [← hv] at hpc hri
                        simp only at hpc hri hch hlast hslp
                        obtain ⟨Ae, ce, rfl, hce1, hce2⟩ := pc_len hpc
                        replace hlast := Lib.hid hlast
                        have Hch := Lib.hid (show 32 = (bvs ch).length by rw [bvs_length, hch])
                        have hcl := Lib.hid (pieceCells_length s fp ch hch (.slice Ae lsp.length ce) pr)
                        have h1c := piece_oneCell hpc s fp ch
                        have hlvc : ∀ g, (Value.slice (some ⟨gc, 0, none⟩) psc.length cc).ownBlock = some g → g < wc.heap.size := fun g e => (hrowc.lt g e).2
                        clear hp hv hend hAll hiM him hil hi hsumc hgood hmv hmp
                        rw [hm] at hrowc hlvc ⊢
                        go_wp2_with (first
                          | ((with_reducible refine law_load_g ?_ _ Tryd.underlying37 ?_ gc (m * 36) ?_ (pieceCells s fp ch (.slice Ae lsp.length ce) pr) ?_ hri ?_); (rfl); (rfl); (rfl); (rw [hcl.out]; exact size_piece))
                          | ((with_reducible refine law_alloc (dst := some 32) 37 i37 _ hi37 hz37 (pieceCells ByteArray.empty 0 (List.replicate 32 0) (.slice none 0 0) (.slice none 0 0)) ?_ ?_); (rfl); intro g32 w4 hg32 hB32 hr4 hs4)
                          | ((with_reducible refine law_store (.tmp 32) (.tmp 288) 37 g32 0 ?_ (pieceCells s fp ch (.slice Ae lsp.length ce) pr) ?_ ?_ 37 _ hB32 ?_ h1c ?_); (rfl); (rfl); (rw [hcl.out]; exact size_piece); (rw [hcl.out, hpl0.out]; decide); intro w5 hB5 hr5 hs5; rw [lay_all _ _ (by rw [hcl.out, hpl0.out])] at hB5; have hcb5 : w5.rangeAt g32 2 (bvs ch) := hB5.range_mid)
                          | ((with_reducible refine law_load_g ?_ _ Tryd.underlying23 ?_ g32 2 ?_ (bvs ch) ?_ hcb5 ?_); (rfl); (rfl); (rfl); (rw [← Hch.out]; exact size_digest))
                          | ((with_reducible refine law_alloc (dst := some 33) 23 i23 _ hi23 hz23 (List.replicate 32 (.int .u8 0)) ?_ ?_); (rfl); intro g33 w6 hg33 hB33 hr6 hs6)
                          | ((with_reducible refine law_store (.tmp 33) (.tmp 290) 23 g33 0 ?_ (bvs ch) ?_ ?_ 23 (List.replicate 32 (.int .u8 0)) hB33 ?_ (oneCell_bvs _) ?_); (rfl); (rfl); (rw [← Hch.out]; exact size_digest); (rw [← Hch.out]; decide); intro w7 hB7 hr7 hs7; rw [lay_all _ _ (by rw [← Hch.out]; rfl)] at hB7))
                        have hgs1 := grown_skip hr4 hr5 (by rw [hg32.out]; exact Nat.le_refl _)
                        have hgs2 := grown_skip hr6 hr7 (by rw [hg33.out]; exact Nat.le_refl _)
                        have hgs := grown_trans hgs1 hgs2
                        have hg33n : wc.heap.size ≤ g33 := by rw [hg33.out]; exact hgs1.size
                        have hg32n : wc.heap.size ≤ g32 := by rw [hg32.out]; exact Nat.le_refl _
                        have hB7' := hB5.grown hgs2 (by simp)
                        have hL7 : Lx w wc g18 g33 chE ch s (.slice (some ⟨gc, 0, none⟩) (m + 1) cc) psc pvc lo' w7 :=
                          ⟨hEc.grown hgs (by simp), hB7, by rw [hm]; exact hrowc.kept hgs (.inr (by simp [Value.ownBlock])), (Kp.refl wc lo').grown hgs (by simp), hbc.trans (below_of_grown hgs hbc.size (by simp)), by have := hEc.lt; omega, hg33n, hbc.size, hlvc⟩
                        obtain ⟨vsp, cssp, hoe, -, hpt, -⟩ := hpc
                        clear hgs hgs1 hgs2 hr4 hr5 hr6 hr7 hs4 hs5 hs6 hs7 hB32 hB33 hB5 hB7 hcb5 hri hrowc hEc hbc hlvc hg32 hg33
                        go_loopw [34] (fun jv wx => ∃ j : Nat, j ≤ lsp.length ∧ jv = .int .i64 (j : Int) ∧ Lx w wc g18 g33 chE (chainL width ch (lsp.take j)) s (.slice (some ⟨gc, 0, none⟩) (m + 1) cc) psc pvc lo' wx ∧ Blk wx g32 37 (pieceCells s fp ch (.slice Ae lsp.length ce) pr)) (fun jv _ => lsp.length - (intOf jv).toNat)
                        case atStart => exact ⟨0, Nat.zero_le _, rfl, hL7, hB7'⟩
                        case round =>
                          clear hL7 hB7'
                          obtain ⟨j, hj, rfl, hLj, hBj⟩ := hrel
                          have hge34 := (hBj.cell 34).trans (pieceCells_ev _ _ _ hch _ _)
                          by_cases hjn : j < lsp.length
                          · obtain ⟨ge, rfl⟩ : ∃ ge, Ae = some ⟨ge, 0, none⟩ := by
                              rcases hoe.2 with ⟨_, h0⟩ | ⟨g, cap, cur, he, _⟩
                              · omega
                              · injection he with he
                                exact ⟨g, he⟩
                            have hlj : j < vsp.length := by rw [hpt.1]; exact hjn
                            obtain ⟨A1, c1', hv1, h11, h12, h13, h14⟩ := hpt.2 j vsp[j] lsp[j] (List.getElem?_eq_getElem hlj) (List.getElem?_eq_getElem hjn)
                            have hcv1 : wr.cell? ⟨ge, j, none⟩ = some (.slice A1 lsp[j].length c1') := own_cell (own_kp hoe hLj.kp) (by rw [← hv1]; exact List.getElem?_eq_getElem hlj)
                            have hsuc := chainL_succ width ch lsp j hjn
                            have hsln := hslp lsp[j] (List.getElem_mem hjn)
                            obtain ⟨l, hll⟩ : ∃ l, l = lsp[j] := ⟨_, rfl⟩
                            rw [← hll] at h11 h13 hcv1 hsuc hsln
                            have hcl2 := chainL_length width ch hch (lsp.take j)
                            obtain ⟨cj, hcje⟩ : ∃ cj, cj = chainL width ch (lsp.take j) := ⟨_, rfl⟩
                            rw [← hcje] at hsuc hLj hcl2
                            replace hsuc := Lib.hid hsuc
                            have Hj := Lib.hid (show 32 = (bvs cj).length by rw [bvs_length, hcl2])
                            have hbl2 := ofL_length width 2 [cj, ofL width 0 [l]]
                            have hll3 := ofL_length width 0 [l]
                            have Hj2 := Lib.hid (show 32 = (bvs (ofL width 2 [cj, ofL width 0 [l]])).length by rw [bvs_length, hbl2])
                            have h13' : Rd wr.drew A1 (bvs l) := (h13.kp hLj.drew.kp h14).rd
                            obtain ⟨N, hN⟩ : ∃ N, N = lsp.length := ⟨_, rfl⟩
                            rw [← hN] at hge34 hjn hBj ⊢
                            have hjN : j + 1 ≤ N := by omega
                            have hlN : l.length ≤ maxLen := by omega
                            have hlN2 : l.length < 1152921504606846000 := by omega
                            have hNm : N ≤ 9223372036854775807 := by rw [← hN] at hce1; simp only [maxLen] at hce2; omega
                            clear hll hcje hv1 hlj h13 h14
                            replace hN := Lib.hid hN
                            have hLd := hLj.drew
                            have hBd : Blk wr.drew g32 37 _ := hBj.drew
                            have hcvd : wr.drew.cell? ⟨ge, j, none⟩ = some (.slice A1 l.length c1') := hcv1
                            go_wp2
                            clear hLj hBj hcv1
                            refine wp_region_plan [(0, true), (1, true), (2, true), (3, true), (4, true), (5, true), (6, true), (7, true), (8, false), (9, false), (10, false)] 10 (fun wx => Blk wx g33 23 (bvs cj) ∧ wx.cell? ⟨g32, 34, none⟩ = some (.slice (some ⟨ge, 0, none⟩) N ce) ∧ wx.cell? ⟨ge, j, none⟩ = some (.slice A1 l.length c1')) (by kernel_rfl) (by kernel_rfl) rfl (by kernel_rfl) (by intro c a d v w h; cases d <;> exact h) ⟨hLd.b18, hge34, hcvd⟩ ?_
                            iterate 1 (refine plan_take rfl rfl ?_; apply Exists.intro; refine ⟨fun w' hS => ?_, ?_⟩; (have hc1 := hS.2.1; have hc2 := hS.2.2; clear hS; go_simp; rfl); simp only [List.getElem_toArray, List.getElem_cons_zero, Act.put, List.setIfInBounds_toArray, List.set_cons_succ, List.set_cons_zero])
                            refine plan_take rfl rfl ⟨.agg (bvs cj).toArray, fun w' hS => exec_load _ w' (.tmp 33) 23 _ Tryd.underlying23 rfl g33 0 rfl (bvs cj) (by rw [← Hj.out]; exact size_digest) hS.1.range, ?_⟩
                            simp only [List.getElem_toArray, List.getElem_cons_succ, List.getElem_cons_zero, Act.put, List.setIfInBounds_toArray, List.set_cons_succ, List.set_cons_zero]
                            iterate 6 (refine plan_take rfl rfl ?_; apply Exists.intro; refine ⟨fun w' hS => ?_, ?_⟩; (have hc1 := hS.2.1; have hc2 := hS.2.2; clear hS; go_simp; rfl); simp only [List.getElem_toArray, List.getElem_cons_succ, List.getElem_cons_zero, Act.put, List.setIfInBounds_toArray, List.set_cons_succ, List.set_cons_zero])
                            refine plan_loud rfl rfl ?_
                            go_simp
                            refine (leaf_any wr.drew width A1 l.length c1' l ⟨A1, c1', rfl, h11, h12, h13'⟩ hlN2 (tab_below htab hLd.be (Nat.le_refl _))).mono ?_
                            rintro e w8 ⟨rfl, hb8⟩
                            have hL8 := hLd.below hb8
                            have hB8 := hBd.below hb8 hBd.lt
                            have hcv8 : w8.cell? ⟨ge, j, none⟩ = some (.slice A1 l.length c1') := by rw [hb8.cell (p := ⟨ge, _, none⟩) (block_lt_of_cell hcvd)]; exact hcvd
                            refine ⟨⟨hL8.b18, (hB8.cell 34).trans (pieceCells_ev _ _ _ hch _ _), hcv8⟩, ?_⟩
                            refine plan_loud rfl rfl ?_
                            go_simp
                            refine (link_any w8 width cj (ofL width 0 [l]) hcl2 hll3 (tab_below htab hL8.be (Nat.le_refl _))).mono ?_
                            rintro e w9 ⟨rfl, hb9⟩
                            have hL9 := hL8.below hb9
                            have hB9 := hB8.below hb9 hB8.lt
                            have hcv9 : w9.cell? ⟨ge, j, none⟩ = some (.slice A1 l.length c1') := by rw [hb9.cell (p := ⟨ge, _, none⟩) (block_lt_of_cell hcv8)]; exact hcv8
                            refine ⟨⟨hL9.b18, (hB9.cell 34).trans (pieceCells_ev _ _ _ hch _ _), hcv9⟩, ?_⟩
                            refine plan_loud rfl rfl ?_
                            refine op_store (.tmp 33) (.tmp 307) 23 g33 0 rfl (bvs (ofL width 2 [cj, ofL width 0 [l]])) rfl (by rw [← Hj2.out]; exact size_digest) 23 (bvs cj) hL9.b18 (by rw [← Hj2.out, ← Hj.out]; decide) (oneCell_bvs _) ?_
                            intro w10 hB10' hg10' _
                            rw [lay_all _ _ (by rw [← Hj2.out, ← Hj.out])] at hB10'
                            have hL10 := hL9.chain hg10' hB10'
                            have hBx := hB9.grown hg10' (fun e => hB9.ne_ hL9.b18 (by decide) (by injection e))
                            refine ⟨.inr (.inl rfl), plan_nil ?_⟩
                            rw [← hsuc.out] at hL10
                            clear hL8 hL9 hLd hB8 hB9 hBd hB10' hg10' hb8 hb9 hcv8 hcv9 hcvd hge34 h13'
                            go_wp2
                            go_roundw
                            case rel => exact ⟨j + 1, by omega, by go_num, hL10, hBx⟩
                            case measure => simp [intOf]; omega
                          · have hjn' : j = lsp.length := by omega
                            have hchE2 : chainL width ch (lsp.take j) = chE := by rw [hjn', List.take_length]; exact hlast.out
                            rw [hchE2] at hLj
                            have hEl : chE.length = 32 := by rw [hchE.out]; exact chainL_length width before hbf ls1
                            have HE := Lib.hid (show 32 = (bvs chE).length by rw [bvs_length, hEl])
                            have hee : (chE == chE) = true := by simp
                            have hz5 : ((M : Int) == (M : Int)) = true := by rw [beq_iff_eq]
                            have hlpm : lsp.length ≤ 9223372036854775807 := by simp only [maxLen] at hce2; omega
                            have hjn2 : ¬ ((j : Int) < (lsp.length : Int)) := by omega
                            clear hchE2 hlast
                            go_wp2_with (first
                              | ((with_reducible refine law_load_g ?_ _ Tryd.underlying23 ?_ g33 0 ?_ (bvs chE) ?_ hLj.b18.range ?_); (rfl); (rfl); (rfl); (rw [← HE.out]; exact size_digest))
                              | ((with_reducible refine law_load_g ?_ _ Tryd.underlying23 ?_ g18 0 ?_ (bvs chE) ?_ hLj.b10.range ?_); (rfl); (rfl); (rfl); (rw [← HE.out]; exact size_digest))
                              | ((with_reducible refine law_eq_digest_g ?_ chE chE hEl hEl ?_ ?_ ?_); (rfl); (rfl); (rfl); rw [hee]))
                            exact bodyPost_ret (results_tmp rfl _ _ _) rfl ⟨rfl, hLj.be⟩
end Go.Proofs.YtcmponmgaikkfaaDoor
