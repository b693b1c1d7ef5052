/-
  The octet writer's Raw, Digests, Bytes, All, New.
-/
import Derived.Test.YtcmponmgaikkfaaDoorPut
namespace Go.Proofs.YtcmponmgaikkfaaDoor
open Go.RowKit

theorem Rd.blk_lt {w : World} {A : Option Addr} {xs : List Value} (h : Rd w A xs) (hne : xs ≠ []) : ∀ b o, A = some ⟨b, o, none⟩ → b < w.heap.size := fun b o e => by
  obtain ⟨b', o', e', hlt⟩ := h.lt hne
  rw [e] at e'
  injection e' with e'
  injection e' with e1
  omega

theorem grown_skip {a b c : World} {g : Nat} (h : a.grownBy b none) (k : b.grownBy c (some g)) (hg : a.heap.size ≤ g) : a.grownBy c none :=
  ⟨k.os.trans h.os, k.tape.trans h.tape, k.output.trans h.output, Nat.le_trans h.size k.size, fun i hi _ => (k.block i (Nat.lt_of_lt_of_le hi h.size) (by simp; omega)).trans (h.block i hi (by simp))⟩

set_option maxHeartbeats 1000000 in
set_option maxRecDepth 100000 in
theorem raw_any (w : World) (p base n : Nat) (v0 : Value) (hW : Wr w p base v0 n) (hbase : base ≤ w.heap.size) (A : Option Addr) (cap : Nat) (vs : List Value) (ls : List (List UInt8)) (hA : Rd w A vs) (hfA : Far p v0 A)
    (hcap : vs.length ≤ cap) (hcm : cap ≤ maxLen) (hP : Parts w vs ls) (hfP : ∀ (i : Nat) Ai ni ci, vs[i]? = some (.slice Ai ni ci) → Far p v0 Ai) (hn : n + ls.flatten.length < 70368744177664) :
    Calls Tryd.prog 31 #[.pointer (some ⟨p, 0, none⟩), .slice A vs.length cap] w fun e w' => e = .returned (.tuple #[]) ∧ ∃ v', Wr w' p base v' (n + ls.flatten.length) ∧ Step w p v0 w' v' := by
  obtain ⟨i0, hi0, hz0, hz1, hz2⟩ := info_parts info_b8
  have hcm' : vs.length ≤ 9223372036854775807 := by simp only [maxLen] at hcm; omega
  go_enter Tryd.func31, Tryd.ntmps31
  go_wp2
  go_loopw [8] (fun iv wr => ∃ k : Nat, k ≤ vs.length ∧ iv = .int .i64 (k : Int) ∧ ∃ v, Wr wr p base v (n + (ls.take k).flatten.length) ∧ Step w p v0 wr v) (fun iv _ => vs.length - (intOf iv).toNat)
  case atStart => exact ⟨0, by omega, rfl, v0, by simpa using hW, Step.refl _ _ _⟩
  case round =>
    obtain ⟨k, hk, rfl, v, ⟨hp, hB, xs, hown⟩, hs⟩ := hrel
    by_cases hlt : k < vs.length
    · obtain ⟨b, o, rfl, hc⟩ := hfA.step hA hs (by intro e; subst e; simp at hlt)
      have hlk : k < ls.length := by have := hP.1; omega
      obtain ⟨Ak, ck, hvk, h1, h2, h3⟩ := hP.2 k vs[k] ls[k] (List.getElem?_eq_getElem hlt) (List.getElem?_eq_getElem hlk)
      have hck : wr.cell? ⟨b, o + k, none⟩ = some (.slice Ak ls[k].length ck) := by
        have := hc k vs[k] (List.getElem?_eq_getElem hlt)
        rw [this, hvk]
      have hfk : Far p v0 Ak := hfP k Ak _ _ (by rw [List.getElem?_eq_getElem hlt, hvk])
      have hrk := hfk.step h3 hs
      have hfl : (ls.take (k + 1)).flatten = (ls.take k).flatten ++ ls[k] := by
        rw [List.take_succ_eq_append_getElem hlk, List.flatten_append, List.flatten_cons, List.flatten_nil, List.append_nil]
      have hle : (ls.take (k + 1)).flatten.length ≤ ls.flatten.length := by
        have := congrArg List.length (congrArg List.flatten (List.take_append_drop (k + 1) ls))
        rw [List.flatten_append, List.length_append] at this
        omega
      have hll := congrArg List.length hfl
      rw [List.length_append] at hll
      have hll' := hll
      rw [hll] at hle
      obtain ⟨lk, hlk'⟩ : ∃ lk, lk = ls[k] := ⟨_, rfl⟩
      rw [← hlk'] at hck h1 h3 hrk hll hle
      obtain ⟨nk, hnk⟩ : ∃ nk, nk = n + (ls.take k).flatten.length := ⟨_, rfl⟩
      rw [← hnk] at hown
      have Hll := Lib.hid (show n + (ls.take (k + 1)).flatten.length = nk + lk.length by omega)
      have hlen : nk + lk.length < 70368744177664 := by omega
      have hcell := hB.cell 0
      simp only [List.getElem?_cons_zero] at hcell
      clear hvk hfl hll hll' hlk' hc hle hnk
      go_wp2_with (first
        | ((with_reducible refine law_append (.tmp 16) (.tmp 17) 27 base 5 i0 _ 1 1 Tryd.underlying27 hi0 hz0 hz1 hz2 ?_ ?_ v nk xs ?_ hown Ak lk.length ck (bvs lk) ?_ ?_ hrk (oneCell_bvs _) ?_ ?_ ?_ ?_); (rfl); (decide); (rfl); (rfl); (rw [bvs_length, Nat.mul_one]); (simp only [maxLen]; omega); (omega); (exact Nat.le_trans hbase hs.size); intro v' w3 hown3 hg3 hr3; have hB2 : Blk w3 p 66 [v] := hB.grown hg3 (fun e => own_ne hown hB (by decide) e.symm))
        | ((with_reducible refine law_storeCell (.tmp 20) (.tmp 18) 27 p 0 ?_ v' ?_ (own_oneCell hown3).2 (own_oneCell hown3).1 size_bytes 66 [v] hB2 ?_ ?_); (rfl); (rfl); (simp); intro w4 hB4 hg4 _))
      have hnx := Wr.next hp hs hB hown hown3 hg3 hr3 hB4 hg4
      go_roundw
      case rel => exact ⟨k + 1, by omega, by go_num, _, by rw [Hll.out]; exact hnx.1, hnx.2⟩
      case measure => simp [intOf]; omega
    · have hkl : k = vs.length := by omega
      have hall : ls.take k = ls := List.take_of_length_le (by have := hP.1; omega)
      rw [hall] at hown
      go_wp2
      exact bodyPost_end (results_none rfl _ _ _) rfl ⟨rfl, v, ⟨hp, hB, xs, hown⟩, hs⟩

/-- Digests, one behind the other. -/
def Digs (w : World) (A : Option Addr) (ds : List (List UInt8)) : Prop := (∀ d ∈ ds, d.length = 32) ∧ Rd w A (ds.flatMap bvs)
theorem digs_at {ds : List (List UInt8)} (h : ∀ d ∈ ds, d.length = 32) (k : Nat) (hk : k < ds.length) (j : Nat) (u : Value) (hu : (bvs ds[k])[j]? = some u) : (ds.flatMap bvs)[32 * k + j]? = some u := by
  induction ds generalizing k with
  | nil => simp at hk
  | cons d ds ih =>
    rw [List.flatMap_cons]
    have hd : (bvs d).length = 32 := by rw [bvs_length]; exact h d (by simp)
    cases k with
    | zero =>
      rw [List.getElem?_append_left]
      · simpa using hu
      · have := (List.getElem?_eq_some_iff.1 hu).1; simp at this ⊢; omega
    | succ k =>
      rw [List.getElem?_append_right (by omega), show 32 * (k + 1) + j - (bvs d).length = 32 * k + j by omega]
      exact ih (fun x hx => h x (List.mem_cons_of_mem _ hx)) k (by simpa using hk) (by simpa using hu)
theorem digs_length {ds : List (List UInt8)} (h : ∀ d ∈ ds, d.length = 32) : (ds.flatMap bvs).length = 32 * ds.length := by
  induction ds with
  | nil => rfl
  | cons d ds ih => rw [List.flatMap_cons, List.length_append, ih (fun x hx => h x (List.mem_cons_of_mem _ hx)), bvs_length, h d (by simp), List.length_cons]; omega
theorem Digs.range {w : World} {b o : Nat} {ds : List (List UInt8)} (h : Digs w (some ⟨b, o, none⟩) ds) (k : Nat) (hk : k < ds.length) : w.rangeAt b (o + k * 32) (bvs ds[k]) := fun j u hu => by
  have hlen := digs_length h.1
  obtain ⟨b', o', e, hc⟩ := h.2 (by intro e; have := congrArg List.length e; rw [hlen] at this; simp at this; omega)
  obtain ⟨rfl, rfl⟩ : b = b' ∧ o = o' := by injection e with e; injection e with e1 e2; exact ⟨e1, e2⟩
  have := hc (32 * k + j) u (digs_at h.1 k hk j u hu)
  rwa [← Nat.add_assoc, Nat.mul_comm] at this

theorem Digs.step {w w1 : World} {p : Nat} {v v1 : Value} {A : Option Addr} {ds : List (List UInt8)} (h : Digs w A ds) (hf : ds.flatMap bvs ≠ [] → Far p v A) (hs : Step w p v w1 v1) : Digs w1 A ds := by
  refine ⟨h.1, ?_⟩
  by_cases hne : ds.flatMap bvs = []
  · rw [hne]; exact Rd.nil _ _
  · exact (hf hne).step h.2 hs

set_option maxHeartbeats 1000000 in
set_option maxRecDepth 100000 in
theorem digests_any (w : World) (p base n : Nat) (v0 : Value) (hW : Wr w p base v0 n) (hbase : base ≤ w.heap.size) (A : Option Addr) (cap : Nat) (ds : List (List UInt8)) (hA : Digs w A ds) (hfA : ds.flatMap bvs ≠ [] → Far p v0 A)
    (hcm : ds.length ≤ maxLen) (hn : n + 32 * ds.length < 70368744177664) :
    Calls Tryd.prog 22 #[.pointer (some ⟨p, 0, none⟩), .slice A ds.length cap] w fun e w' => e = .returned (.tuple #[]) ∧ ∃ v', Wr w' p base v' (n + 32 * ds.length) ∧ Step w p v0 w' v' := by
  obtain ⟨i0, hi0, hz0, hz1, hz2⟩ := info_parts info_b8
  obtain ⟨i1, hi1, hy1, _, _⟩ := info_parts info_digest
  have hcm' : ds.length ≤ 9223372036854775807 := by simp only [maxLen] at hcm; omega
  go_enter Tryd.func22, Tryd.ntmps22
  go_wp2
  go_loopw [8] (fun iv wr => ∃ k : Nat, k ≤ ds.length ∧ iv = .int .i64 (k : Int) ∧ ∃ v, Wr wr p base v (n + 32 * k) ∧ Step w p v0 wr v) (fun iv _ => ds.length - (intOf iv).toNat)
  case atStart => exact ⟨0, by omega, rfl, v0, by simpa using hW, Step.refl _ _ _⟩
  case round =>
    obtain ⟨k, hk, rfl, v, hWr, hs⟩ := hrel
    by_cases hlt : k < ds.length
    · have hne : ds.flatMap bvs ≠ [] := by intro e; have := congrArg List.length e; rw [digs_length hA.1] at this; simp at this; omega
      have hD : Digs wr A ds := ⟨hA.1, (hfA hne).step hA.2 hs⟩
      obtain ⟨b, o, rfl, _⟩ := hA.2 hne
      have hrange := hD.range k hlt
      have h32 := hA.1 ds[k] (List.getElem_mem hlt)
      obtain ⟨dk, hdk⟩ : ∃ dk, dk = ds[k] := ⟨_, rfl⟩
      rw [← hdk] at hrange h32
      have Hl := Lib.hid (show 32 = (bvs dk).length by rw [bvs_length, h32])
      clear hdk hD hne h32
      go_wp2_with (first
        | ((with_reducible refine law_load (.tmp 10) 23 _ Tryd.underlying23 ?_ b (o + k * 32) ?_ (bvs dk) ?_ hrange ?_); (rfl); (rfl); (rw [← Hl.out]; exact size_digest))
        | ((with_reducible refine law_alloc 23 i1 _ hi1 hy1 (List.replicate 32 (.int .u8 0)) ?_ ?_); (rfl); intro g1 w1 hg1 hB1 hr1 hs1)
        | ((with_reducible refine law_store (.tmp 5) (.tmp 11) 23 g1 0 ?_ (bvs dk) ?_ ?_ 23 (List.replicate 32 (.int .u8 0)) hB1 ?_ (oneCell_bvs _) ?_); (rfl); (rfl); (rw [← Hl.out]; exact size_digest); (rw [← Hl.out]; decide); intro w2 hB2 hr2 hs2; rw [lay_all _ _ (by rw [← Hl.out]; rfl)] at hB2))
      have hr := grown_skip hr1 hr2 (by rw [hg1.out]; exact Nat.le_refl _)
      obtain ⟨hp, hB, xs, hown⟩ := hWr.grown_none hr
      have hs2 := hs.grown_none hr
      have hrd : Rd w2 (some ⟨g1, 0, none⟩) (bvs dk) := by
        have := Rd.of_blk hB2 0 (bvs dk).length
        rwa [List.drop_zero, List.take_length] at this
      clear hWr hs hr1 hr2 hB1 hrange
      simp only [Act.put, List.setIfInBounds_toArray, List.set_cons_succ, List.set_cons_zero]
      refine wp_region_plan [(0, true), (1, true), (2, true), (3, true), (4, true), (5, true), (6, false), (7, false), (8, true), (9, false)] 9 (fun wx => Blk wx p 66 [v]) (by kernel_rfl) (by kernel_rfl) rfl (by kernel_rfl) (by intro c a d v w h; cases d <;> exact h) hB.drew ?_
      repeat (refine plan_take rfl rfl ?_; apply Exists.intro; refine ⟨fun w' hS => ?_, ?_⟩; ((have hc := hS.cell 0); simp only [List.getElem?_cons_zero] at hc; go_simp; rfl); simp only [List.getElem_toArray, List.getElem_cons_succ, List.getElem_cons_zero, Act.put, List.setIfInBounds_toArray, List.set_cons_succ, List.set_cons_zero])
      refine plan_loud rfl rfl ?_
      refine op_append (.tmp 16) (.tmp 17) 27 base 5 i0 _ 1 1 Tryd.underlying27 hi0 hz0 hz1 hz2 rfl (by decide) v (n + 32 * k) xs rfl hown (some ⟨g1, 0, none⟩) 32 32 (bvs dk) rfl (by rw [← Hl.out]) hrd (oneCell_bvs _) (by simp only [maxLen]; omega) (by omega) (Nat.le_trans hbase hs2.size) ?_
      intro v' w3 hown3 hg3 hr3
      have hB3 : Blk w3 p 66 [v] := hB.drew.grown hg3 (fun e => own_ne hown hB (by decide) e.symm)
      refine ⟨.inr (.inr hB3), ?_⟩
      simp only [Act.put, List.setIfInBounds_toArray, List.set_cons_succ, List.set_cons_zero]
      refine plan_loud rfl rfl ?_
      go_simp
      refine plan_take rfl rfl ?_; apply Exists.intro; refine ⟨fun w' hS => ?_, ?_⟩; (go_simp; rfl); simp only [List.getElem_toArray, List.getElem_cons_succ, List.getElem_cons_zero, Act.put, List.setIfInBounds_toArray, List.set_cons_succ, List.set_cons_zero]
      refine plan_loud rfl rfl ?_
      refine op_storeCell (.tmp 20) (.tmp 18) 27 p 0 rfl v' rfl (own_oneCell hown3).2 (own_oneCell hown3).1 size_bytes 66 [v] hB3 (by simp) ?_
      intro w4 hB4 hg4 _
      refine ⟨.inr (.inl rfl), plan_nil ?_⟩
      have hnx := Wr.next hp hs2.drew hB.drew hown hown3 hg3 hr3 hB4 hg4
      go_wp2
      go_roundw
      case rel => exact ⟨k + 1, by omega, by go_num, _, hnx.1, hnx.2⟩
      case measure => simp [intOf]; omega
    · have hkl : k = ds.length := by omega
      subst hkl
      go_wp2
      exact bodyPost_end (results_none rfl _ _ _) rfl ⟨rfl, v, hWr, hs⟩

theorem bound_any (w : World) : Calls Tryd.prog 34 #[.int .i64 65536, .int .i64 2147483647] w fun e w' => e = .returned (.int .i64 65536) ∧ w' = w := by
  go_enter Tryd.func34, Tryd.ntmps34
  go_wp2
  go_ret
  exact ⟨rfl, rfl⟩

set_option maxHeartbeats 1000000 in
set_option maxRecDepth 100000 in
theorem bytes_any (w : World) (p base n : Nat) (v0 : Value) (hW : Wr w p base v0 n) (hbase : base ≤ w.heap.size) (A : Option Addr) (cap : Nat) (l : List UInt8) (hA : Rd w A (bvs l)) (hfA : Far p v0 A) (hl : l.length ≤ 65536) (hn : n < 35184372088832) :
    Calls Tryd.prog 21 #[.pointer (some ⟨p, 0, none⟩), .slice A l.length cap, .int .i64 65536] w fun e w' => e = .returned (.int .i64 0) ∧ ∃ v', Wr w' p base v' (n + 4 + l.length) ∧ Step w p v0 w' v' := by
  obtain ⟨i0, hi0, hz0, hz1, hz2⟩ := info_parts info_b8
  go_enter Tryd.func21, Tryd.ntmps21
  go_wp2_with (first
    | (go_at_call 34; refine (bound_any _).mono ?_; rintro e w1 ⟨rfl, rfl⟩)
    | (go_at_call 20; refine (put32_any _ p base n v0 _ hW hbase (by omega)).mono ?_; rintro e w2 ⟨rfl, v, ⟨hp, hB, xs, hown⟩, hs⟩; have hrd := hfA.step hA hs; have hcell := hB.cell 0; simp only [List.getElem?_cons_zero] at hcell)
    | ((with_reducible refine law_append (.tmp 21) (.tmp 22) 27 base 5 i0 _ 1 1 Tryd.underlying27 hi0 hz0 hz1 hz2 ?_ ?_ v (n + 4) xs ?_ hown A l.length cap (bvs l) ?_ ?_ hrd (oneCell_bvs _) ?_ ?_ ?_ ?_); (rfl); (decide); (rfl); (rfl); (rw [bvs_length, Nat.mul_one]); (simp only [maxLen]; omega); (omega); (exact Nat.le_trans hbase hs.size); intro v' w3 hown3 hg3 hr3; have hB2 : Blk w3 p 66 [v] := hB.grown hg3 (fun e => own_ne hown hB (by decide) e.symm))
    | ((with_reducible refine law_storeCell (.tmp 25) (.tmp 23) 27 p 0 ?_ v' ?_ (own_oneCell hown3).2 (own_oneCell hown3).1 size_bytes 66 [v] hB2 ?_ ?_); (rfl); (rfl); (simp); intro w4 hB4 hg4 _))
  have hnx := Wr.next hp hs hB hown hown3 hg3 hr3 hB4 hg4
  go_ret
  exact ⟨rfl, _, hnx.1, hnx.2⟩

theorem octnew_any (w : World) : Calls Tryd.prog 16 #[] w fun e w' => ∃ g, e = .returned (.pointer (some ⟨g, 0, none⟩)) ∧ Wr w' g w.heap.size (.slice none 0 0) 0 ∧ Below w.heap.size w w' := by
  go_enter Tryd.func16, Tryd.ntmps16
  go_wp2
  go_ret
  exact ⟨_, rfl, ⟨Nat.le_refl _, Blk.new w 66 [.slice none 0 0], [], World.ownsRow_nil _ _ _ _⟩, (Below.refl _ _).alloc (Nat.le_refl _) _⟩

theorem all_any (w : World) (p base n : Nat) (v0 : Value) (hW : Wr w p base v0 n) (hbase : base ≤ w.heap.size) (hn : n < 70368744177664) :
    Calls Tryd.prog 23 #[.pointer (some ⟨p, 0, none⟩)] w fun e w' => (∃ u, e = .returned u) ∧ Below base w w' := by
  obtain ⟨i0, hi0, hz0, hz1, hz2⟩ := info_parts info_b8
  obtain ⟨hp, hB, xs, hown⟩ := hW
  have hcell := hB.cell 0
  simp only [List.getElem?_cons_zero] at hcell
  obtain ⟨A, c, rfl, hrd, hxl⟩ : ∃ A c, v0 = .slice A n c ∧ Rd w A xs ∧ xs.length = n := by
    rcases hown.2 with ⟨rfl, rfl⟩ | ⟨g, cap, cur, rfl, _⟩
    · exact ⟨_, _, rfl, Rd.of_own hown, by simpa using hown.1⟩
    · exact ⟨_, _, rfl, Rd.of_own hown, by simpa using hown.1⟩
  go_enter Tryd.func23, Tryd.ntmps23
  go_wp2_with (first
    | ((with_reducible refine law_append_nil (.tmp 6) 27 5 i0 _ 1 1 Tryd.underlying27 hi0 hz0 hz1 hz2 ?_ A n c xs ?_ ?_ hrd ?_ ?_ ?_); (decide); (rfl); (omega); (simp only [maxLen]; omega); (omega); intro A' c' w3 hg3 _ _ _ _))
  go_ret
  exact ⟨⟨_, rfl⟩, below_of_grown hg3 hbase (by simp)⟩
end Go.Proofs.YtcmponmgaikkfaaDoor
