/-
  digest.Of, Leaf, Link: the sums of docket.
-/
import Derived.Test.YtcmponmgaikkfaaDoorSum
import Derived.Test.YtcmponmgaikkfaaDoorPlan
namespace Go.Proofs.YtcmponmgaikkfaaDoor
open Go.RowKit

/-- The sum of a domain's byte and of parts behind it. -/
def ofL (width : Int) (domain : UInt8) (ls : List (List UInt8)) : List UInt8 := cutD (sha (domain :: ls.flatten)) width
theorem ofL_length (width : Int) (domain : UInt8) (ls : List (List UInt8)) : (ofL width domain ls).length = 32 := cutD_length _ (sha_length _) _

theorem new_hash {w : World} {g : Nat} (h : Blk w g 86 (hcells s8Begin (List.replicate 64 0) 0)) (o : Obj) : HashAt (w.alloc o) g [] :=
  ⟨List.replicate 64 0, by simp, by simp, h.alloc o, by simp⟩
theorem one_byte (w : World) (b : UInt8) (t : TypeId) : Rd (w.alloc (.cells #[.int .u8 (b.toNat : Int)] t)) (some ⟨w.heap.size, 0, none⟩) (bvs [b]) := fun _ => by
  refine ⟨w.heap.size, 0, rfl, fun j u hu => ?_⟩
  have h := Blk.new w t [.int .u8 (b.toNat : Int)]
  rw [h.cell, Nat.zero_add]
  exact hu
theorem tab_below {w w' : World} {B : Nat} (h : Tab w) (hb : Below B w w') (hB : w.heap.size ≤ B) : Tab w' := fun t ht => by
  rw [hb.cell (p := ⟨_, t, none⟩) (Nat.lt_of_lt_of_le (block_lt_of_cell (h t ht)) hB)]; exact h t ht
theorem tab_pos {w : World} (h : Tab w) : 0 < w.heap.size := block_lt_of_cell (h 0 (by decide))

theorem parts_one {w : World} {v : Value} {l : List UInt8} (h : SlB w v l) : Parts w [v] [l] := ⟨rfl, fun i v' l' h1 h2 => by
  cases i with
  | zero => simp at h1 h2; subst h1 h2; exact h
  | succ i => simp at h1⟩

set_option maxHeartbeats 2000000 in
set_option maxRecDepth 100000 in
theorem of_any (w : World) (width : Int) (domain : UInt8) (A : Option Addr) (cap : Nat) (vs : List Value) (ls : List (List UInt8)) (hA : Rd w A vs) (hcap : vs.length ≤ cap) (hcm : cap ≤ maxLen) (hP : Parts w vs ls)
    (hlen : ls.flatten.length < 1152921504606846000) (htab : Tab w) :
    Calls Tryd.prog 25 #[.int .i64 width, .int .i64 domain.toNat, .slice A vs.length cap] w fun e w' => e = .returned (.agg (bvs (ofL width domain ls)).toArray) ∧ Below w.heap.size w w' := by
  obtain ⟨i1, hi1, hy1, _, _⟩ := info_parts info_digest
  have hd := domain.toNat_lt
  have hcm' : vs.length ≤ 9223372036854775807 := by simp only [maxLen] at hcm; omega
  go_enter Tryd.func25, Tryd.ntmps25
  have hpos := tab_pos htab
  go_wp2_with (first
    | ((with_reducible refine law_alloc 23 i1 _ hi1 hy1 (List.replicate 32 (.int .u8 0)) ?_ ?_); (rfl); intro g1 w1 hg1 hB1 hr1 hs1; have hb1 : Below w.heap.size w w1 := below_of_grown hr1 (Nat.le_refl _) (by simp))
    | (go_at_call 35; refine (new_any _).mono ?_; rintro e w2 ⟨g, rfl, hg, hB2, hb2⟩; have hH0 := new_hash hB2 (.cells #[.int .u8 (domain.toNat : Int)] 5); have hrd0 := one_byte w2 domain 5; have hgw : w.heap.size ≤ g := Nat.le_trans hb1.size hg; have hb2' : Below w.heap.size w (w2.alloc (.cells #[.int .u8 (domain.toNat : Int)] 5)) := (hb1.trans (hb2.mono hb1.size)).alloc (Nat.le_trans hb1.size hb2.size) _; have hg2 : g < w2.heap.size := hB2.lt)
    | (go_at_call 36; refine (write_len (w2.alloc (.cells #[.int .u8 (domain.toNat : Int)] 5)) g [] [domain] 1 rfl hH0 _ 1 hrd0 (by omega) (by decide) (by intro _ ad h; injection h with h; subst h; simp; omega) (by simp) (tab_below htab hb2' (Nat.le_refl _)) (by omega)).mono ?_; rintro e w3 ⟨rfl, hH3, hg3⟩))
  have hb3 : Below w.heap.size w w3 := hb2'.trans (below_of_grown hg3 hb2'.size (by intro k hk; injection hk; omega))
  have hB3 : Blk w3 g1 23 (List.replicate 32 (.int .u8 0)) := ((hB1.below hb2 hB1.lt).alloc _).grown hg3 (by have := hB1.lt; simp; omega)
  have hg1g : g1 < g := by have := hB1.lt; omega
  have hg1w : w.heap.size ≤ g1 := by rw [hg1.out]; exact Nat.le_refl _
  clear hH0 hrd0 hb2' hB2 hb2 hb1 hB1 hg1 hr1 hs1 hg2 hg3
  go_loopw [18] (fun iv wr => ∃ k : Nat, k ≤ vs.length ∧ iv = .int .i64 (k : Int) ∧ HashAt wr g (domain :: (ls.take k).flatten) ∧ Blk wr g1 23 (List.replicate 32 (.int .u8 0)) ∧ Below w.heap.size w wr) (fun iv _ => vs.length - (intOf iv).toNat)
  case atStart => exact ⟨0, by omega, rfl, hH3, hB3, hb3⟩
  clear hH3 hB3 hb3
  case round =>
    obtain ⟨k, hk, rfl, hH, hB, hb⟩ := hrel
    by_cases hlt : k < vs.length
    · obtain ⟨b, o, rfl, hc⟩ := hA (by intro e; subst e; simp at hlt)
      have hlk : k < ls.length := by have := hP.1; omega
      obtain ⟨Ak, ck, hvk, h1, h2, h3⟩ := hP.2 k vs[k] ls[k] (List.getElem?_eq_getElem hlt) (List.getElem?_eq_getElem hlk)
      have hck : wr.cell? ⟨b, o + k, none⟩ = some (.slice Ak ls[k].length ck) := by
        have := hc k vs[k] (List.getElem?_eq_getElem hlt)
        rw [hb.cell (p := ⟨b, _, none⟩) (block_lt_of_cell this), this, hvk]
      have hfl : (ls.take (k + 1)).flatten = (ls.take k).flatten ++ ls[k] := by
        rw [List.take_succ_eq_append_getElem hlk, List.flatten_append, List.flatten_cons, List.flatten_nil, List.append_nil]
      have hle : (ls.take (k + 1)).flatten.length ≤ ls.flatten.length := by
        have := congrArg List.length (congrArg List.flatten (List.take_append_drop (k + 1) ls))
        rw [List.flatten_append, List.length_append] at this
        omega
      have hll := congrArg List.length hfl
      rw [List.length_append] at hll
      have Hfl := Lib.hid hfl
      have hlen2 : (domain :: (ls.take k).flatten).length + ls[k].length < 4611686018427387904 := by simp only [List.length_cons]; omega
      obtain ⟨lk, hlk'⟩ : ∃ lk, lk = ls[k] := ⟨_, rfl⟩
      rw [← hlk'] at hck h1 h3 hlen2 Hfl
      clear hvk hfl hle hll hlk' hc
      go_wp2_with (first
        | (go_at_call 36; refine (write_any wr g _ lk hH Ak ck (h3.below hb (Nat.le_refl _)) h1 h2 (by intro hne ad had; obtain ⟨b', o', e, hlt'⟩ := h3.lt (by intro e; exact hne (by simpa [bvs] using e)); rw [had] at e; injection e with e; subst e; simp; omega) hlen2 (tab_below htab hb (Nat.le_refl _)) (by omega)).mono ?_; rintro e w4 ⟨rfl, hH4, hg4⟩))
      go_roundw
      case rel => exact ⟨k + 1, by omega, by go_num, by rw [Hfl.out]; simpa using hH4, hB.grown hg4 (by simp; omega), hb.trans (below_of_grown hg4 hb.size (by intro k hk; injection hk; omega))⟩
      case measure => simp [intOf]; omega
    · have hkl : k = vs.length := by omega
      have hall : ls.take k = ls := List.take_of_length_le (by have := hP.1; omega)
      rw [hall] at hH
      clear hkl hall
      have Hl := Lib.hid (show 32 = (bvs (ofL width domain ls)).length by rw [bvs_length, ofL_length])
      have hm60 : (domain :: ls.flatten).length < 1152921504606846976 := by simp only [List.length_cons]; omega
      go_wp2_with (first
        | (go_at_call 38; refine (sum_any wr g _ hH hm60 (tab_below htab hb (Nat.le_refl _))).mono ?_; rintro e w5 ⟨rfl, hb5⟩)
        | (go_at_call 37; refine (cut_any w5 _ (sha_length _) width).mono ?_; rintro e w6 ⟨rfl, hb6⟩)
        | ((with_reducible refine law_store (.tmp 6) (.tmp 29) 23 g1 0 ?_ (bvs (ofL width domain ls)) ?_ ?_ 23 (List.replicate 32 (.int .u8 0)) ((hB.below hb5 hB.lt).below hb6 ?_) ?_ (oneCell_bvs _) ?_); (rfl); (rfl); (rw [← Hl.out]; exact size_digest); (exact Nat.lt_of_lt_of_le hB.lt hb5.size); (rw [← Hl.out]; decide); intro wz hBz hrz hsz; rw [lay_all _ _ (by rw [← Hl.out]; rfl)] at hBz))
      have hb6' : Below w.heap.size w w6 := (hb.trans (hb5.mono hb.size)).trans (hb6.mono (Nat.le_trans hb.size hb5.size))
      exact ret_cell rfl g1 rfl 23 _ hBz _ Tryd.underlying23 rfl (by rw [← Hl.out]; exact size_digest) rfl ⟨rfl, hb6'.trans (below_of_grown hrz hb6'.size (by intro k hk; injection hk; omega))⟩

theorem slb_of_blk {w : World} {g : Nat} {t : TypeId} {c : List UInt8} {n : Nat} (h : Blk w g t (bvs c)) (hn : c.length = n) (hm : n ≤ maxLen) : SlB w (.slice (some ⟨g, 0, none⟩) n n) c :=
  ⟨_, n, by rw [hn], by omega, hm, by have := Rd.of_blk h 0 (bvs c).length; rwa [List.drop_zero, List.take_length] at this⟩
theorem parts_two {w : World} {v v' : Value} {l l' : List UInt8} (h : SlB w v l) (h' : SlB w v' l') : Parts w [v, v'] [l, l'] := ⟨rfl, fun i x y h1 h2 => by
  match i, h1, h2 with
  | 0, h1, h2 => simp at h1 h2; subst h1 h2; exact h
  | 1, h1, h2 => simp at h1 h2; subst h1 h2; exact h'
  | i + 2, h1, _ => simp at h1⟩
theorem slb_alloc {w : World} {v : Value} {l : List UInt8} (h : SlB w v l) (o : Obj) : SlB (w.alloc o) v l := h.below ((Below.refl _ _).alloc (Nat.le_refl _) o) (Nat.le_refl _)
theorem rd_alloc (w : World) (vs : List Value) (t : TypeId) : Rd (w.alloc (.cells vs.toArray t)) (some ⟨w.heap.size, 0, none⟩) vs := by
  have := Rd.of_blk (Blk.new w t vs) 0 vs.length
  rwa [List.drop_zero, List.take_length] at this

theorem leaf_any (w : World) (width : Int) (A : Option Addr) (n cap : Nat) (l : List UInt8) (hA : SlB w (.slice A n cap) l) (hlen : l.length < 1152921504606846000) (htab : Tab w) :
    Calls Tryd.prog 11 #[.int .i64 width, .slice A n cap] w fun e w' => e = .returned (.agg (bvs (ofL width 0 [l])).toArray) ∧ Below w.heap.size w w' := by
  obtain ⟨i1, hi1, hy1, _, _⟩ := info_parts info_digest
  have Hl := Lib.hid (show 32 = (bvs (ofL width 0 [l])).length by rw [bvs_length, ofL_length])
  go_enter Tryd.func11, Tryd.ntmps11
  go_wp2_with (first
    | ((with_reducible refine law_alloc 23 i1 _ hi1 hy1 (List.replicate 32 (.int .u8 0)) ?_ ?_); (rfl); intro g1 w1 hg1 hB1 hr1 hs1; have hb1 : Below w.heap.size w w1 := below_of_grown hr1 (Nat.le_refl _) (by simp); have hP : Parts (w1.alloc (.cells #[.slice A n cap] 27)) [.slice A n cap] [l] := parts_one (slb_alloc (hA.below hb1 (Nat.le_refl _)) _); have hrd := rd_alloc w1 [.slice A n cap] 27; have hbb : Below w.heap.size w (w1.alloc (.cells #[.slice A n cap] 27)) := hb1.alloc hb1.size _)
    | (go_at_call 25; refine (of_any (w1.alloc (.cells #[.slice A n cap] 27)) width 0 _ 1 _ [l] hrd (by simp) (by decide) hP (by simpa using hlen) (tab_below htab hbb (Nat.le_refl _))).mono ?_; rintro e w2 ⟨rfl, hb2⟩)
    | ((with_reducible refine law_store (.tmp 4) (.tmp 8) 23 g1 0 ?_ (bvs (ofL width 0 [l])) ?_ ?_ 23 (List.replicate 32 (.int .u8 0)) ((hB1.alloc _).below hb2 ?_) ?_ (oneCell_bvs _) ?_); (rfl); (rfl); (rw [← Hl.out]; exact size_digest); (simp; exact Nat.lt_succ_of_lt hB1.lt); (rw [← Hl.out]; decide); intro wz hBz hrz hsz; rw [lay_all _ _ (by rw [← Hl.out]; rfl)] at hBz))
  have hbz : Below w.heap.size w w2 := hbb.trans (hb2.mono hbb.size)
  exact ret_cell rfl g1 rfl 23 _ hBz _ Tryd.underlying23 rfl (by rw [← Hl.out]; exact size_digest) rfl ⟨rfl, hbz.trans (below_of_grown hrz hbz.size (by intro k hk; injection hk; have := hg1.out; omega))⟩

theorem link_any (w : World) (width : Int) (c d : List UInt8) (hc : c.length = 32) (hd : d.length = 32) (htab : Tab w) :
    Calls Tryd.prog 10 #[.int .i64 width, .agg (bvs c).toArray, .agg (bvs d).toArray] w fun e w' => e = .returned (.agg (bvs (ofL width 2 [c, d])).toArray) ∧ Below w.heap.size w w' := by
  obtain ⟨i1, hi1, hy1, _, _⟩ := info_parts info_digest
  have Hl := Lib.hid (show 32 = (bvs (ofL width 2 [c, d])).length by rw [bvs_length, ofL_length])
  go_enter Tryd.func10, Tryd.ntmps10
  go_wp2_with (first
    | ((with_reducible refine law_box (.tmp 1) 23 (bvs c) ?_ ?_); (rfl); intro g1 w1 hg1 hB1 hr1 hs1)
    | ((with_reducible refine law_box (.tmp 2) 23 (bvs d) ?_ ?_); (rfl); intro g2 w2 hg2 hB2 hr2 hs2)
    | ((with_reducible refine law_alloc 23 i1 _ hi1 hy1 (List.replicate 32 (.int .u8 0)) ?_ ?_); (rfl); intro g3 w3 hg3 hB3 hr3 hs3))
  refine wp_region_plan [(0, true), (1, true), (2, true), (3, false), (4, false), (5, false)] 5 (fun _ => True) (by kernel_rfl) (by kernel_rfl) rfl (by kernel_rfl) (by intro c a d v w h; cases d <;> exact h) trivial ?_
  repeat (refine plan_take rfl rfl ?_; apply Exists.intro; refine ⟨fun w' hS => ?_, ?_⟩; (go_simp; rfl); simp only [List.getElem_toArray, List.getElem_cons_succ, List.getElem_cons_zero, Act.put, List.setIfInBounds_toArray, List.set_cons_succ, List.set_cons_zero])
  refine plan_loud rfl rfl ?_
  go_simp
  have hb1 : Below w.heap.size w w1 := below_of_grown hr1 (Nat.le_refl _) (by simp)
  have hb2 : Below w.heap.size w w2 := hb1.trans (below_of_grown hr2 hb1.size (by simp))
  have hb3 : Below w.heap.size w w3 := hb2.trans (below_of_grown hr3 hb2.size (by simp))
  have hB1' : Blk w3 g1 23 (bvs c) := (hB1.grown hr2 (by simp)).grown hr3 (by simp)
  have hB2' : Blk w3 g2 23 (bvs d) := hB2.grown hr3 (by simp)
  have hg3w : w.heap.size ≤ g3 := by rw [hg3.out]; exact hb2.size
  refine plan_loud rfl rfl ?_
  go_simp
  have hbb : Below w.heap.size w ((w3.alloc (.cells #[.slice (some ⟨g1, 0, none⟩) 32 32, .slice (some ⟨g2, 0, none⟩) 32 32] 27)).drew) := (hb3.alloc hb3.size _).drew
  have hP : Parts ((w3.alloc (.cells #[.slice (some ⟨g1, 0, none⟩) 32 32, .slice (some ⟨g2, 0, none⟩) 32 32] 27)).drew) [.slice (some ⟨g1, 0, none⟩) 32 32, .slice (some ⟨g2, 0, none⟩) 32 32] [c, d] :=
    parts_two (slb_of_blk ((hB1'.alloc _).drew) hc (by decide)) (slb_of_blk ((hB2'.alloc _).drew) hd (by decide))
  have hrd := rd_alloc w3 [.slice (some ⟨g1, 0, none⟩) 32 32, .slice (some ⟨g2, 0, none⟩) 32 32] 27
  refine (of_any ((w3.alloc (.cells #[.slice (some ⟨g1, 0, none⟩) 32 32, .slice (some ⟨g2, 0, none⟩) 32 32] 27)).drew) width 2 _ 2 _ [c, d] (show Rd ((w3.alloc (.cells #[.slice (some ⟨g1, 0, none⟩) 32 32, .slice (some ⟨g2, 0, none⟩) 32 32] 27)).drew) _ _ from hrd) (by simp) (by decide) hP (by simp [hc, hd]) (tab_below htab hbb (Nat.le_refl _))).mono ?_
  rintro e w4 ⟨rfl, hb4⟩
  refine plan_loud rfl rfl ?_
  refine op_store (.tmp 6) (.tmp 11) 23 g3 0 rfl (bvs (ofL width 2 [c, d])) rfl (by rw [← Hl.out]; exact size_digest) 23 (List.replicate 32 (.int .u8 0)) ((hB3.alloc _).drew.below hb4 (by simp; exact Nat.lt_succ_of_lt hB3.lt)) (by rw [← Hl.out]; decide) (oneCell_bvs _) ?_
  intro wz hBz hrz hsz
  rw [lay_all _ _ (by rw [← Hl.out]; rfl)] at hBz
  refine ⟨.inr (.inl rfl), plan_nil ?_⟩
  have hbz : Below w.heap.size w w4 := hbb.trans (hb4.mono hbb.size)
  go_wp2
  exact ret_cell rfl g3 rfl 23 _ hBz _ Tryd.underlying23 rfl (by rw [← Hl.out]; exact size_digest) rfl ⟨rfl, hbz.trans (below_of_grown hrz hbz.size (by intro k hk; injection hk; omega))⟩
end Go.Proofs.YtcmponmgaikkfaaDoor
