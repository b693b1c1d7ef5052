/-
  digest.Cut: the first bytes of a digest.
-/
import Derived.Test.YtcmponmgaikkfaaDoorTake
import Derived.Test.YtcmponmgaikkfaaDoorLaws
namespace Go.Proofs.YtcmponmgaikkfaaDoor
open Go.RowKit

def cutN (width : Int) : Nat := (min (max width 1) 32).toNat
def cutD (d : List UInt8) (width : Int) : List UInt8 := d.take (cutN width) ++ List.replicate (32 - cutN width) 0
theorem cutD_length (d : List UInt8) (hd : d.length = 32) (width : Int) : (cutD d width).length = 32 := by
  simp [cutD, cutN, hd]; omega

theorem info_u8 : (Tryd.prog.info? 5).map (fun i => (i.zero, i.size, i.bytes)) = some (some (.int .u8 0), 1, 1) := by kernel_rfl
theorem size_digest : (Tryd.prog.info? 23).map (·.size) = some 32 := by kernel_rfl
theorem cut_lay (d : List UInt8) (hd : d.length = 32) (width : Int) (k : Nat) (hk : k = cutN width) : lay (bvs d) k (List.replicate (32 - k) (.int .u8 0)) = bvs (cutD d width) := by
  subst hk
  have : cutN width ≤ 32 := by unfold cutN; omega
  unfold lay cutD bvs
  rw [List.map_append, List.map_take, List.map_replicate]
  congr 1
  rw [List.drop_eq_nil_of_le (by simp; omega)]
  simp [bv]

theorem info_digest : (Tryd.prog.info? 23).map (fun i => (i.zero, i.size, i.bytes)) = some (some (.agg (List.replicate 32 (.int .u8 0)).toArray), 32, 32) := by kernel_rfl
theorem cut_zero (cs : List Value) (z : Value) : lay cs 32 (List.replicate (32 - 32) z) = lay cs 0 (List.replicate 0 z) := by simp [lay]
theorem cut_end {w w1 w2 w3 w4 : World} {g1 g2 : Nat} (h1 : w.grownBy w1 none) (h2 : w1.grownBy w2 none) (h3 : w2.grownBy w3 (some g1)) (h4 : w3.grownBy w4 (some g2)) (e1 : g1 = w.heap.size) (e2 : g2 = w1.heap.size) : Below w.heap.size w w4 := by
  have := h1.size
  refine (below_of_grown h1 (Nat.le_refl _) (by simp)).trans ((below_of_grown h2 h1.size (by simp)).trans ((below_of_grown h3 (Nat.le_trans h1.size h2.size) (by intro k hk; injection hk; omega)).trans (below_of_grown h4 (Nat.le_trans h1.size (Nat.le_trans h2.size h3.size)) (by intro k hk; injection hk; omega))))

set_option maxRecDepth 100000 in
theorem cut_any (w : World) (d : List UInt8) (hd : d.length = 32) (width : Int) :
    Calls Tryd.prog 37 #[.agg (bvs d).toArray, .int .i64 width] w fun e w' => e = .returned (.agg (bvs (cutD d width)).toArray) ∧ Below w.heap.size w w' := by
  obtain ⟨i0, hi0, hz0, hz1, _⟩ := info_parts info_u8
  obtain ⟨i1, hi1, hy0, hy1, _⟩ := info_parts info_digest
  have Hd := Lib.hid hd
  have hl32 : (bvs (cutD d width)).length = 32 := by rw [bvs_length, cutD_length d hd]
  have Hl := Lib.hid hl32.symm
  have hcases : width < 1 ∨ (1 ≤ width ∧ width < 32) ∨ 32 < width ∨ width = 32 := by omega
  have hlay : ∀ k : Nat, k = cutN width → lay (bvs d) k (List.replicate (32 - k) (.int .u8 0)) = bvs (cutD d width) := fun k => cut_lay d hd width k
  have Hlay := Lib.hid hlay
  clear hd hl32 hlay
  rcases hcases with h | ⟨h, h'⟩ | h | rfl
  · have Hk := Lib.hid (show 1 = cutN width by unfold cutN; omega)
    go_enter Tryd.func37, Tryd.ntmps37
    go_wp2_with (first
      | ((with_reducible refine law_box (.tmp 0) 23 (bvs d) ?_ ?_); (rfl); intro g1 w1 hg1 hB1 hr1 hs1)
      | ((with_reducible refine law_alloc 23 i1 _ hi1 hy0 (List.replicate 32 (.int .u8 0)) ?_ ?_); (rfl); intro g2 w2 hg2 hB2 hr2 hs2; have hne : g1 < g2 := Nat.lt_of_lt_of_le hB1.lt (Nat.le_of_eq hg2.out.symm))
      | ((with_reducible refine law_clear (.tmp 8) 27 5 i0 (.int .u8 0) Tryd.underlying27 hi0 hz0 ?_ ?_ g1 1 31 31 ?_ 23 (bvs d) (hB1.grown hr2 ?_) ?_ ?_); (rfl); (rfl); (rfl); (simp); (rw [bvs_length, Hd.out]; decide); intro w3 hB3 hr3 hs3; rw [Hlay.out _ Hk.out] at hB3)
      | ((with_reducible refine law_load (.tmp 2) 23 _ Tryd.underlying23 ?_ g1 0 ?_ (bvs (cutD d width)) ?_ hB3.range ?_); (rfl); (rfl); (rw [← Hl.out]; exact size_digest))
      | ((with_reducible refine law_store (.tmp 4) (.tmp 9) 23 g2 0 ?_ (bvs (cutD d width)) ?_ ?_ 23 (List.replicate 32 (.int .u8 0)) (hB2.grown hr3 ?_) ?_ (oneCell_bvs _) ?_); (rfl); (rfl); (rw [← Hl.out]; exact size_digest); (simp; omega); (rw [← Hl.out]; decide); intro w4 hB4 hr4 hs4; rw [lay_all _ _ (by rw [← Hl.out]; rfl)] at hB4))
    exact ret_cell rfl g2 rfl 23 _ hB4 _ Tryd.underlying23 rfl (by rw [← Hl.out]; exact size_digest) rfl ⟨rfl, cut_end hr1 hr2 hr3 hr4 hg1.out hg2.out⟩
  · have h0 : 0 ≤ width := by omega
    have h2 : width ≤ 32 := by omega
    have Hk := Lib.hid (show width.toNat = cutN width by unfold cutN; omega)
    go_enter Tryd.func37, Tryd.ntmps37
    go_wp2_with (first
      | ((with_reducible refine law_box (.tmp 0) 23 (bvs d) ?_ ?_); (rfl); intro g1 w1 hg1 hB1 hr1 hs1)
      | ((with_reducible refine law_alloc 23 i1 _ hi1 hy0 (List.replicate 32 (.int .u8 0)) ?_ ?_); (rfl); intro g2 w2 hg2 hB2 hr2 hs2; have hne : g1 < g2 := Nat.lt_of_lt_of_le hB1.lt (Nat.le_of_eq hg2.out.symm))
      | ((with_reducible refine law_clear (.tmp 8) 27 5 i0 (.int .u8 0) Tryd.underlying27 hi0 hz0 ?_ ?_ g1 width.toNat (32 - width.toNat) (32 - width.toNat) ?_ 23 (bvs d) (hB1.grown hr2 ?_) ?_ ?_); (rfl); (rfl); (rfl); (simp); (rw [bvs_length, Hd.out]; omega); intro w3 hB3 hr3 hs3; rw [Hlay.out _ Hk.out] at hB3)
      | ((with_reducible refine law_load (.tmp 2) 23 _ Tryd.underlying23 ?_ g1 0 ?_ (bvs (cutD d width)) ?_ hB3.range ?_); (rfl); (rfl); (rw [← Hl.out]; exact size_digest))
      | ((with_reducible refine law_store (.tmp 4) (.tmp 9) 23 g2 0 ?_ (bvs (cutD d width)) ?_ ?_ 23 (List.replicate 32 (.int .u8 0)) (hB2.grown hr3 ?_) ?_ (oneCell_bvs _) ?_); (rfl); (rfl); (rw [← Hl.out]; exact size_digest); (simp; omega); (rw [← Hl.out]; decide); intro w4 hB4 hr4 hs4; rw [lay_all _ _ (by rw [← Hl.out]; rfl)] at hB4))
    exact ret_cell rfl g2 rfl 23 _ hB4 _ Tryd.underlying23 rfl (by rw [← Hl.out]; exact size_digest) rfl ⟨rfl, cut_end hr1 hr2 hr3 hr4 hg1.out hg2.out⟩
  · have Hk := Lib.hid (show 32 = cutN width by unfold cutN; omega)
    go_enter Tryd.func37, Tryd.ntmps37
    go_wp2_with (first
      | ((with_reducible refine law_box (.tmp 0) 23 (bvs d) ?_ ?_); (rfl); intro g1 w1 hg1 hB1 hr1 hs1)
      | ((with_reducible refine law_alloc 23 i1 _ hi1 hy0 (List.replicate 32 (.int .u8 0)) ?_ ?_); (rfl); intro g2 w2 hg2 hB2 hr2 hs2; have hne : g1 < g2 := Nat.lt_of_lt_of_le hB1.lt (Nat.le_of_eq hg2.out.symm))
      | ((with_reducible refine law_clear (.tmp 8) 27 5 i0 (.int .u8 0) Tryd.underlying27 hi0 hz0 ?_ ?_ g1 0 0 0 ?_ 23 (bvs d) (hB1.grown hr2 ?_) ?_ ?_); (rfl); (rfl); (rfl); (simp); (rw [bvs_length, Hd.out]; decide); intro w3 hB3 hr3 hs3; rw [← cut_zero, Hlay.out _ Hk.out] at hB3)
      | ((with_reducible refine law_load (.tmp 2) 23 _ Tryd.underlying23 ?_ g1 0 ?_ (bvs (cutD d width)) ?_ hB3.range ?_); (rfl); (rfl); (rw [← Hl.out]; exact size_digest))
      | ((with_reducible refine law_store (.tmp 4) (.tmp 9) 23 g2 0 ?_ (bvs (cutD d width)) ?_ ?_ 23 (List.replicate 32 (.int .u8 0)) (hB2.grown hr3 ?_) ?_ (oneCell_bvs _) ?_); (rfl); (rfl); (rw [← Hl.out]; exact size_digest); (simp; omega); (rw [← Hl.out]; decide); intro w4 hB4 hr4 hs4; rw [lay_all _ _ (by rw [← Hl.out]; rfl)] at hB4))
    exact ret_cell rfl g2 rfl 23 _ hB4 _ Tryd.underlying23 rfl (by rw [← Hl.out]; exact size_digest) rfl ⟨rfl, cut_end hr1 hr2 hr3 hr4 hg1.out hg2.out⟩
  · have Hk := Lib.hid (show 32 = cutN 32 by unfold cutN; omega)
    go_enter Tryd.func37, Tryd.ntmps37
    go_wp2_with (first
      | ((with_reducible refine law_box (.tmp 0) 23 (bvs d) ?_ ?_); (rfl); intro g1 w1 hg1 hB1 hr1 hs1)
      | ((with_reducible refine law_alloc 23 i1 _ hi1 hy0 (List.replicate 32 (.int .u8 0)) ?_ ?_); (rfl); intro g2 w2 hg2 hB2 hr2 hs2; have hne : g1 < g2 := Nat.lt_of_lt_of_le hB1.lt (Nat.le_of_eq hg2.out.symm))
      | ((with_reducible refine law_clear (.tmp 8) 27 5 i0 (.int .u8 0) Tryd.underlying27 hi0 hz0 ?_ ?_ g1 0 0 0 ?_ 23 (bvs d) (hB1.grown hr2 ?_) ?_ ?_); (rfl); (rfl); (rfl); (simp); (rw [bvs_length, Hd.out]; decide); intro w3 hB3 hr3 hs3; rw [← cut_zero, Hlay.out _ Hk.out] at hB3)
      | ((with_reducible refine law_load (.tmp 2) 23 _ Tryd.underlying23 ?_ g1 0 ?_ (bvs (cutD d 32)) ?_ hB3.range ?_); (rfl); (rfl); (rw [← Hl.out]; exact size_digest))
      | ((with_reducible refine law_store (.tmp 4) (.tmp 9) 23 g2 0 ?_ (bvs (cutD d 32)) ?_ ?_ 23 (List.replicate 32 (.int .u8 0)) (hB2.grown hr3 ?_) ?_ (oneCell_bvs _) ?_); (rfl); (rfl); (rw [← Hl.out]; exact size_digest); (simp; omega); (rw [← Hl.out]; decide); intro w4 hB4 hr4 hs4; rw [lay_all _ _ (by rw [← Hl.out]; rfl)] at hB4))
    exact ret_cell rfl g2 rfl 23 _ hB4 _ Tryd.underlying23 rfl (by rw [← Hl.out]; exact size_digest) rfl ⟨rfl, cut_end hr1 hr2 hr3 hr4 hg1.out hg2.out⟩
end Go.Proofs.YtcmponmgaikkfaaDoor
