/-
  digest.begin, digest.New: the empty text's hasher.
-/
import Derived.Test.YtcmponmgaikkfaaDoorCut
namespace Go.Proofs.YtcmponmgaikkfaaDoor
open Go.RowKit

/-- A hasher's cells: the state, the bytes that fill no block yet, the count. -/
def hcells (s : S8) (rest : List UInt8) (n : Nat) : List Value := sv s ++ (bvs rest ++ [.int .u64 n])

theorem info_state : (Tryd.prog.info? 82).map (fun i => (i.zero, i.size, i.bytes)) = some (some (.agg (List.replicate 8 (.int .u32 0)).toArray), 8, 32) := by kernel_rfl
theorem size_state : (Tryd.prog.info? 82).map (·.size) = some 8 := by kernel_rfl
theorem size_hasher : (Tryd.prog.info? 86).map (·.size) = some 73 := by kernel_rfl
theorem oneCell_sv (s : S8) : ∀ u ∈ sv s, u.oneCell' = true := by
  intro u hu
  simp only [sv, List.mem_cons, List.not_mem_nil, or_false] at hu
  rcases hu with rfl | rfl | rfl | rfl | rfl | rfl | rfl | rfl <;> rfl

theorem sv_begin : sv s8Begin = [.int .u32 1779033703, .int .u32 3144134277, .int .u32 1013904242, .int .u32 2773480762, .int .u32 1359893119, .int .u32 2600822924, .int .u32 528734635, .int .u32 1541459225] := by kernel_rfl
theorem begin_any (w : World) : Calls Tryd.prog 42 #[] w fun e w' => e = .returned (.agg (sv s8Begin).toArray) ∧ Below w.heap.size w w' := by
  obtain ⟨i1, hi1, hy0, hy1, _⟩ := info_parts info_state
  go_enter Tryd.func42, Tryd.ntmps42
  go_wp2_with (first
    | ((with_reducible refine law_alloc 82 i1 _ hi1 hy0 (List.replicate 8 (.int .u32 0)) ?_ ?_); (rfl); intro g2 w2 hg2 hB2 hr2 hs2)
    | ((with_reducible refine law_store (.tmp 0) (.tmp 1) 82 g2 0 ?_ (sv s8Begin) ?_ ?_ 82 (List.replicate 8 (.int .u32 0)) hB2 ?_ (oneCell_sv _) ?_); (rfl); (rw [sv_begin]; rfl); (exact size_state); (decide); intro w4 hB4 hr4 hs4; rw [lay_all _ _ (by rfl)] at hB4))
  exact ret_cell rfl g2 rfl 82 _ hB4 _ Tryd.underlying82 rfl size_state rfl ⟨rfl, (below_of_grown hr2 (Nat.le_refl _) (by simp)).trans (below_of_grown hr4 hr2.size (by intro k hk; injection hk; have := hg2.out; omega))⟩

theorem new_any (w : World) : Calls Tryd.prog 35 #[] w fun e w' => ∃ g, e = .returned (.pointer (some ⟨g, 0, none⟩)) ∧ w.heap.size ≤ g ∧ Blk w' g 86 (hcells s8Begin (List.replicate 64 0) 0) ∧ Below w.heap.size w w' := by
  have hb : ∀ w0 : World, (Instr.build 86 #[(0, .agg (sv s8Begin).toArray)]).run Tryd.prog w0 = .ok (.agg (hcells s8Begin (List.replicate 64 0) 0).toArray) w0 := fun _ => by kernel_rfl
  go_enter Tryd.func35, Tryd.ntmps35
  go_wp2_with (first
    | (go_at_call 42; refine (begin_any _).mono ?_; rintro e w1 ⟨rfl, hb1⟩)
    | ((with_reducible refine law_build 86 _ (.agg (hcells s8Begin (List.replicate 64 0) 0).toArray) ?_ ?_); (simp only [List.map_toArray, List.map_cons, List.map_nil]; exact hb _))
    | ((with_reducible refine law_box (.tmp 2) 86 (hcells s8Begin (List.replicate 64 0) 0) ?_ ?_); (rfl); intro g2 w2 hg2 hB2 hr2 hs2))
  go_ret
  exact ⟨g2, rfl, by rw [hg2.out]; exact hb1.size, hB2, hb1.trans (below_of_grown hr2 hb1.size (by simp))⟩
end Go.Proofs.YtcmponmgaikkfaaDoor
