/-
  octet.Put: a number laid down, byte by byte. Printed by wip/tools/gen-put.py.
-/
import Derived.Test.YtcmponmgaikkfaaDoorWid
import Derived.Test.YtcmponmgaikkfaaDoorApp
import Derived.Test.YtcmponmgaikkfaaDoorOf
namespace Go.Proofs.YtcmponmgaikkfaaDoor
open Go.RowKit

set_option maxHeartbeats 1000000 in
set_option maxRecDepth 100000 in
theorem put8_any (w : World) (p base n : Nat) (v0 : Value) (x : Int) (hW : Wr w p base v0 n) (hbase : base ≤ w.heap.size) (hn : n < 70368744177664) :
    Calls Tryd.prog 17 #[.pointer (some ⟨p, 0, none⟩), .int .u8 x] w fun e w' => e = .returned (.tuple #[]) ∧ ∃ v', Wr w' p base v' (n + 1) ∧ Step w p v0 w' v' := by
  obtain ⟨i0, hi0, hz0, hz1, hz2⟩ := info_parts info_b8
  go_enter Tryd.func17, Tryd.ntmps17
  go_wp2_with (first
    | (go_at_call 30; refine (width1_any _).mono ?_; rintro e w2 ⟨rfl, rfl⟩))
  go_loopw [4] (fun iv wr => ∃ k : Nat, k ≤ 1 ∧ iv = .int .i64 ((0 : Int) - k) ∧ ∃ v, Wr wr p base v (n + k) ∧ Step w2 p v0 wr v) (fun iv _ => (intOf iv + 1).toNat)
  case atStart => exact ⟨0, by omega, by go_num, v0, hW, Step.refl _ _ _⟩
  case round =>
    obtain ⟨k, hk, rfl, v, hWr, hb⟩ := hrel
    by_cases hlt : k < 1
    · obtain ⟨hp, hB, xs, hown⟩ := hWr
      go_wp2
      refine wp_region_plan [(0, true), (1, true), (2, true), (3, true), (4, true), (5, true), (6, true), (7, true), (8, true), (9, true), (10, true), (11, false), (12, false), (13, false), (14, true), (15, false)] 15 (fun wx => Blk wx p 66 [v]) (by kernel_rfl) (by kernel_rfl) rfl (by kernel_rfl) (by intro c a d v w h; cases d <;> exact h) hB.drew ?_
      repeat (refine plan_take rfl rfl ?_; apply Exists.intro; refine ⟨fun w' hS => ?_, ?_⟩; ((have hc := hS.cell 0); simp only [List.getElem?_cons_zero] at hc; go_simp; rfl); simp only [List.getElem_toArray, List.getElem_cons_succ, List.getElem_cons_zero, Act.put, List.setIfInBounds_toArray, List.set_cons_succ, List.set_cons_zero])
      obtain ⟨q, hq, hq2⟩ : ∃ q : Nat, IntKind.i64.wrap (8 * ((0 : Int) - k)) = (q : Int) ∧ q < 64 := ⟨8 * (0 - k), by rw [IntWalk.i64_in] <;> omega, by omega⟩
      try rw [hq]
      repeat (refine plan_take rfl rfl ?_; apply Exists.intro; refine ⟨fun w' hS => ?_, ?_⟩; ((have hc := hS.cell 0); simp only [List.getElem?_cons_zero] at hc; go_simp; rfl); simp only [List.getElem_toArray, List.getElem_cons_succ, List.getElem_cons_zero, Act.put, List.setIfInBounds_toArray, List.set_cons_succ, List.set_cons_zero])
      refine plan_loud rfl rfl ?_
      go_simp
      refine ⟨hB.drew.alloc _, ?_⟩
      refine plan_loud rfl rfl ?_
      refine op_append (.tmp 17) (.tmp 24) 27 base 5 i0 _ 1 1 Tryd.underlying27 hi0 hz0 hz1 hz2 rfl (by decide) v (n + k) xs rfl (hown.alloc _) _ 1 1 _ rfl rfl (rd_alloc _ _ _) (by intro u hu; rw [List.mem_singleton.1 hu]; rfl) (by simp only [maxLen]; omega) (by omega) (by have := hb.size; simp; omega) ?_
      intro v' w3 hown3 hg3 hr3
      have hB2 : Blk w3 p 66 [v] := (hB.drew.alloc _).grown hg3 (fun e => own_ne hown hB (by decide) e.symm)
      refine ⟨.inr (.inr hB2), ?_⟩
      simp only [Act.put, List.setIfInBounds_toArray, List.set_cons_succ, List.set_cons_zero]
      refine plan_loud rfl rfl ?_
      go_simp
      refine plan_take rfl rfl ?_; apply Exists.intro; refine ⟨fun w' hS => ?_, ?_⟩; (go_simp; rfl); simp only [List.getElem_toArray, List.getElem_cons_succ, List.getElem_cons_zero, Act.put, List.setIfInBounds_toArray, List.set_cons_succ, List.set_cons_zero]
      refine plan_loud rfl rfl ?_
      refine op_storeCell (.tmp 27) (.tmp 25) 27 p 0 rfl v' rfl (own_oneCell hown3).2 (own_oneCell hown3).1 size_bytes 66 [v] hB2 (by simp) ?_
      intro w4 hB4 hg4 _
      refine ⟨.inr (.inl rfl), plan_nil ?_⟩
      have hnx := Wr.next hp (hb.alloc _).drew (hB.drew.alloc _) (hown.alloc _) hown3 hg3 hr3 hB4 hg4
      go_wp2
      go_roundw
      case rel => exact ⟨k + 1, by omega, by go_num, _, hnx.1, hnx.2⟩
      case measure => simp [intOf]; omega
    · have h8 : k = 1 := by omega
      subst h8
      go_wp2
      exact bodyPost_end (results_none rfl _ _ _) rfl ⟨rfl, v, hWr, hb⟩

set_option maxHeartbeats 1000000 in
set_option maxRecDepth 100000 in
theorem put32_any (w : World) (p base n : Nat) (v0 : Value) (x : Int) (hW : Wr w p base v0 n) (hbase : base ≤ w.heap.size) (hn : n < 70368744177664) :
    Calls Tryd.prog 20 #[.pointer (some ⟨p, 0, none⟩), .int .u32 x] w fun e w' => e = .returned (.tuple #[]) ∧ ∃ v', Wr w' p base v' (n + 4) ∧ Step w p v0 w' v' := by
  obtain ⟨i0, hi0, hz0, hz1, hz2⟩ := info_parts info_b8
  go_enter Tryd.func20, Tryd.ntmps20
  go_wp2_with (first
    | (go_at_call 33; refine (width4_any _).mono ?_; rintro e w2 ⟨rfl, rfl⟩))
  go_loopw [4] (fun iv wr => ∃ k : Nat, k ≤ 4 ∧ iv = .int .i64 ((3 : Int) - k) ∧ ∃ v, Wr wr p base v (n + k) ∧ Step w2 p v0 wr v) (fun iv _ => (intOf iv + 1).toNat)
  case atStart => exact ⟨0, by omega, by go_num, v0, hW, Step.refl _ _ _⟩
  case round =>
    obtain ⟨k, hk, rfl, v, hWr, hb⟩ := hrel
    by_cases hlt : k < 4
    · obtain ⟨hp, hB, xs, hown⟩ := hWr
      go_wp2
      refine wp_region_plan [(0, true), (1, true), (2, true), (3, true), (4, true), (5, true), (6, true), (7, true), (8, true), (9, true), (10, true), (11, false), (12, false), (13, false), (14, true), (15, false)] 15 (fun wx => Blk wx p 66 [v]) (by kernel_rfl) (by kernel_rfl) rfl (by kernel_rfl) (by intro c a d v w h; cases d <;> exact h) hB.drew ?_
      repeat (refine plan_take rfl rfl ?_; apply Exists.intro; refine ⟨fun w' hS => ?_, ?_⟩; ((have hc := hS.cell 0); simp only [List.getElem?_cons_zero] at hc; go_simp; rfl); simp only [List.getElem_toArray, List.getElem_cons_succ, List.getElem_cons_zero, Act.put, List.setIfInBounds_toArray, List.set_cons_succ, List.set_cons_zero])
      obtain ⟨q, hq, hq2⟩ : ∃ q : Nat, IntKind.i64.wrap (8 * ((3 : Int) - k)) = (q : Int) ∧ q < 64 := ⟨8 * (3 - k), by rw [IntWalk.i64_in] <;> omega, by omega⟩
      try rw [hq]
      repeat (refine plan_take rfl rfl ?_; apply Exists.intro; refine ⟨fun w' hS => ?_, ?_⟩; ((have hc := hS.cell 0); simp only [List.getElem?_cons_zero] at hc; go_simp; rfl); simp only [List.getElem_toArray, List.getElem_cons_succ, List.getElem_cons_zero, Act.put, List.setIfInBounds_toArray, List.set_cons_succ, List.set_cons_zero])
      refine plan_loud rfl rfl ?_
      go_simp
      refine ⟨hB.drew.alloc _, ?_⟩
      refine plan_loud rfl rfl ?_
      refine op_append (.tmp 17) (.tmp 24) 27 base 5 i0 _ 1 1 Tryd.underlying27 hi0 hz0 hz1 hz2 rfl (by decide) v (n + k) xs rfl (hown.alloc _) _ 1 1 _ rfl rfl (rd_alloc _ _ _) (by intro u hu; rw [List.mem_singleton.1 hu]; rfl) (by simp only [maxLen]; omega) (by omega) (by have := hb.size; simp; omega) ?_
      intro v' w3 hown3 hg3 hr3
      have hB2 : Blk w3 p 66 [v] := (hB.drew.alloc _).grown hg3 (fun e => own_ne hown hB (by decide) e.symm)
      refine ⟨.inr (.inr hB2), ?_⟩
      simp only [Act.put, List.setIfInBounds_toArray, List.set_cons_succ, List.set_cons_zero]
      refine plan_loud rfl rfl ?_
      go_simp
      refine plan_take rfl rfl ?_; apply Exists.intro; refine ⟨fun w' hS => ?_, ?_⟩; (go_simp; rfl); simp only [List.getElem_toArray, List.getElem_cons_succ, List.getElem_cons_zero, Act.put, List.setIfInBounds_toArray, List.set_cons_succ, List.set_cons_zero]
      refine plan_loud rfl rfl ?_
      refine op_storeCell (.tmp 27) (.tmp 25) 27 p 0 rfl v' rfl (own_oneCell hown3).2 (own_oneCell hown3).1 size_bytes 66 [v] hB2 (by simp) ?_
      intro w4 hB4 hg4 _
      refine ⟨.inr (.inl rfl), plan_nil ?_⟩
      have hnx := Wr.next hp (hb.alloc _).drew (hB.drew.alloc _) (hown.alloc _) hown3 hg3 hr3 hB4 hg4
      go_wp2
      go_roundw
      case rel => exact ⟨k + 1, by omega, by go_num, _, hnx.1, hnx.2⟩
      case measure => simp [intOf]; omega
    · have h8 : k = 4 := by omega
      subst h8
      go_wp2
      exact bodyPost_end (results_none rfl _ _ _) rfl ⟨rfl, v, hWr, hb⟩

set_option maxHeartbeats 1000000 in
set_option maxRecDepth 100000 in
theorem put64_any (w : World) (p base n : Nat) (v0 : Value) (x : Int) (hW : Wr w p base v0 n) (hbase : base ≤ w.heap.size) (hn : n < 70368744177664) :
    Calls Tryd.prog 32 #[.pointer (some ⟨p, 0, none⟩), .int .u64 x] w fun e w' => e = .returned (.tuple #[]) ∧ ∃ v', Wr w' p base v' (n + 8) ∧ Step w p v0 w' v' := by
  obtain ⟨i0, hi0, hz0, hz1, hz2⟩ := info_parts info_b8
  go_enter Tryd.func32, Tryd.ntmps32
  go_wp2_with (first
    | (go_at_call 41; refine (width8_any _).mono ?_; rintro e w2 ⟨rfl, rfl⟩))
  go_loopw [4] (fun iv wr => ∃ k : Nat, k ≤ 8 ∧ iv = .int .i64 ((7 : Int) - k) ∧ ∃ v, Wr wr p base v (n + k) ∧ Step w2 p v0 wr v) (fun iv _ => (intOf iv + 1).toNat)
  case atStart => exact ⟨0, by omega, by go_num, v0, hW, Step.refl _ _ _⟩
  case round =>
    obtain ⟨k, hk, rfl, v, hWr, hb⟩ := hrel
    by_cases hlt : k < 8
    · obtain ⟨hp, hB, xs, hown⟩ := hWr
      go_wp2
      refine wp_region_plan [(0, true), (1, true), (2, true), (3, true), (4, true), (5, true), (6, true), (7, true), (8, true), (9, true), (10, false), (11, false), (12, false), (13, true), (14, false)] 14 (fun wx => Blk wx p 66 [v]) (by kernel_rfl) (by kernel_rfl) rfl (by kernel_rfl) (by intro c a d v w h; cases d <;> exact h) hB.drew ?_
      repeat (refine plan_take rfl rfl ?_; apply Exists.intro; refine ⟨fun w' hS => ?_, ?_⟩; ((have hc := hS.cell 0); simp only [List.getElem?_cons_zero] at hc; go_simp; rfl); simp only [List.getElem_toArray, List.getElem_cons_succ, List.getElem_cons_zero, Act.put, List.setIfInBounds_toArray, List.set_cons_succ, List.set_cons_zero])
      obtain ⟨q, hq, hq2⟩ : ∃ q : Nat, IntKind.i64.wrap (8 * ((7 : Int) - k)) = (q : Int) ∧ q < 64 := ⟨8 * (7 - k), by rw [IntWalk.i64_in] <;> omega, by omega⟩
      try rw [hq]
      repeat (refine plan_take rfl rfl ?_; apply Exists.intro; refine ⟨fun w' hS => ?_, ?_⟩; ((have hc := hS.cell 0); simp only [List.getElem?_cons_zero] at hc; go_simp; rfl); simp only [List.getElem_toArray, List.getElem_cons_succ, List.getElem_cons_zero, Act.put, List.setIfInBounds_toArray, List.set_cons_succ, List.set_cons_zero])
      refine plan_loud rfl rfl ?_
      go_simp
      refine ⟨hB.drew.alloc _, ?_⟩
      refine plan_loud rfl rfl ?_
      refine op_append (.tmp 17) (.tmp 23) 27 base 5 i0 _ 1 1 Tryd.underlying27 hi0 hz0 hz1 hz2 rfl (by decide) v (n + k) xs rfl (hown.alloc _) _ 1 1 _ rfl rfl (rd_alloc _ _ _) (by intro u hu; rw [List.mem_singleton.1 hu]; rfl) (by simp only [maxLen]; omega) (by omega) (by have := hb.size; simp; omega) ?_
      intro v' w3 hown3 hg3 hr3
      have hB2 : Blk w3 p 66 [v] := (hB.drew.alloc _).grown hg3 (fun e => own_ne hown hB (by decide) e.symm)
      refine ⟨.inr (.inr hB2), ?_⟩
      simp only [Act.put, List.setIfInBounds_toArray, List.set_cons_succ, List.set_cons_zero]
      refine plan_loud rfl rfl ?_
      go_simp
      refine plan_take rfl rfl ?_; apply Exists.intro; refine ⟨fun w' hS => ?_, ?_⟩; (go_simp; rfl); simp only [List.getElem_toArray, List.getElem_cons_succ, List.getElem_cons_zero, Act.put, List.setIfInBounds_toArray, List.set_cons_succ, List.set_cons_zero]
      refine plan_loud rfl rfl ?_
      refine op_storeCell (.tmp 26) (.tmp 24) 27 p 0 rfl v' rfl (own_oneCell hown3).2 (own_oneCell hown3).1 size_bytes 66 [v] hB2 (by simp) ?_
      intro w4 hB4 hg4 _
      refine ⟨.inr (.inl rfl), plan_nil ?_⟩
      have hnx := Wr.next hp (hb.alloc _).drew (hB.drew.alloc _) (hown.alloc _) hown3 hg3 hr3 hB4 hg4
      go_wp2
      go_roundw
      case rel => exact ⟨k + 1, by omega, by go_num, _, hnx.1, hnx.2⟩
      case measure => simp [intOf]; omega
    · have h8 : k = 8 := by omega
      subst h8
      go_wp2
      exact bodyPost_end (results_none rfl _ _ _) rfl ⟨rfl, v, hWr, hb⟩
end Go.Proofs.YtcmponmgaikkfaaDoor
