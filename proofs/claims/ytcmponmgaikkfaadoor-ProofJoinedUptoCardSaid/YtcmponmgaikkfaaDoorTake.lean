/-
  The hasher's 'take': one block taken in.
-/
import Derived.Test.YtcmponmgaikkfaaDoorTurn
import Derived.Deep.RegionHeld3
import Derived.Deep.DrawnRows
namespace Go.Proofs.YtcmponmgaikkfaaDoor
open Go.RowKit

/-- The table of round constants lies in its variable. -/
def Tab (w : World) : Prop := ∀ t, t < 64 → w.cell? ⟨0, t, none⟩ = some (.int .u32 (kt t).toNat)

section
attribute [local go_sem ↓] Go.wp_at_zero Go.wp_at_succ

def w1 (p : Nat → UInt8) (k : Nat) : List Value := u32s 64 fun t => if t < k then sw p t else 0
theorem w1_get (p : Nat → UInt8) (k j : Nat) (h : j < 64) : (w1 p k)[j]? = some (c32 (if j < k then sw p j else 0)) := by
  simp [w1, u32s, List.getElem?_map, List.getElem?_range h]
theorem w1_set (p : Nat → UInt8) (k : Nat) (h : k < 64) : (w1 p k).set k (c32 (sw p k)) = w1 p (k + 1) := by
  apply List.ext_getElem?
  intro j
  by_cases hj : j < 64
  · rw [w1_get p (k + 1) j hj, List.getElem?_set]
    by_cases e : k = j
    · subst e; simp [w1, u32s, h]
    · rw [if_neg e, w1_get p k j hj]
      by_cases hlt : j < k
      · rw [if_pos hlt, if_pos (by omega)]
      · rw [if_neg hlt, if_neg (by omega)]
  · rw [List.getElem?_eq_none (by simp [w1, u32s]; omega), List.getElem?_eq_none (by simp [w1, u32s]; omega)]
theorem w1_zero (p : Nat → UInt8) : w1 p 0 = List.replicate 64 (.int .u32 0) := by
  apply List.ext_getElem?
  intro j
  by_cases hj : j < 64
  · rw [w1_get p 0 j hj, List.getElem?_replicate, if_pos hj]; rfl
  · rw [List.getElem?_eq_none (by simp [w1, u32s]; omega), List.getElem?_eq_none (by simp; omega)]

theorem word_eq (p : Nat → UInt8) (k : Nat) : bits .or .u32 (bits .or .u32 (bits .or .u32 (((p (4 * k)).toNat : Int) % 4294967296 * 16777216 % 4294967296) (((p (4 * k + 1)).toNat : Int) % 4294967296 * 65536 % 4294967296)) (((p (4 * k + 2)).toNat : Int) % 4294967296 * 256 % 4294967296)) (((p (4 * k + 3)).toNat : Int) % 4294967296) = ((word p k).toNat : Int) := by
  have h := fun b : UInt8 => IntKind.wrap_u32 _ ▸ u32_of_u8 b
  have e24 := fun x : UInt32 => IntKind.wrap_u32 _ ▸ u32_shl24 x
  have e16 := fun x : UInt32 => IntKind.wrap_u32 _ ▸ u32_shl16 x
  have e8 := fun x : UInt32 => IntKind.wrap_u32 _ ▸ u32_shl8 x
  rw [h (p (4 * k)), h (p (4 * k + 1)), h (p (4 * k + 2)), h (p (4 * k + 3)), e24, e16, e8, u32_or', u32_or', u32_or']
  rfl
theorem sched_eq (a c x y : UInt32) : ((((a.toNat : Int) + bits .xor .u32 (bits .xor .u32 ((rot x 7).toNat : Int) ((rot x 18).toNat : Int)) ((x.toNat : Int) / 8)) % 4294967296 + (c.toNat : Int)) % 4294967296 +
    bits .xor .u32 (bits .xor .u32 ((rot y 17).toNat : Int) ((rot y 19).toNat : Int)) ((y.toNat : Int) / 1024)) % 4294967296 = ((a + sg0 x + c + sg1 y).toNat : Int) := by
  rw [u32_shr3, u32_shr10, u32_xor', u32_xor', u32_xor', u32_xor', u32_add', u32_add', u32_add']
  rfl

theorem u32_add5 (a b c d e : UInt32) : ((a.toNat : Int) + b.toNat + c.toNat + d.toNat + e.toNat) % 4294967296 = ((a + b + c + d + e).toNat : Int) := by
  simp only [UInt32.toNat_add]; omega
theorem xx_eq (r : S8) (k w : UInt32) : ((r.h.toNat : Int) + bits .xor .u32 (bits .xor .u32 ((rot r.e 6).toNat : Int) ((rot r.e 11).toNat : Int)) ((rot r.e 25).toNat : Int) +
    bits .xor .u32 (bits .and .u32 (r.e.toNat : Int) (r.f.toNat : Int)) (bits .and .u32 (bits .xor .u32 (if IntKind.u32.signed = true then -1 else IntKind.u32.max) (r.e.toNat : Int)) (r.g.toNat : Int)) + (k.toNat : Int) + (w.toNat : Int)) % 4294967296 = ((r.xx k w).toNat : Int) := by
  rw [if_neg (by decide), u32_not', u32_and', u32_and', u32_xor', u32_xor', u32_xor', u32_add5]
  rfl
theorem yy_eq (r : S8) : (bits .xor .u32 (bits .xor .u32 ((rot r.a 2).toNat : Int) ((rot r.a 13).toNat : Int)) ((rot r.a 22).toNat : Int) +
    bits .xor .u32 (bits .xor .u32 (bits .and .u32 (r.a.toNat : Int) (r.b.toNat : Int)) (bits .and .u32 (r.a.toNat : Int) (r.c.toNat : Int))) (bits .and .u32 (r.b.toNat : Int) (r.c.toNat : Int))) % 4294967296 = (r.yy.toNat : Int) := by
  rw [u32_and', u32_and', u32_and', u32_xor', u32_xor', u32_xor', u32_xor', u32_add']
  rfl

theorem plus_set (s r : S8) (tl : List Value) (n : Nat) (hn : n < 8) :
    ((List.range 8).map (fun t => if t < n then c32 (s.nth t + r.nth t) else c32 (s.nth t)) ++ tl).set n (c32 (s.nth n + r.nth n)) =
      (List.range 8).map (fun t => if t < n + 1 then c32 (s.nth t + r.nth t) else c32 (s.nth t)) ++ tl := by
  rw [List.set_append_left _ _ (by simpa using hn)]
  congr 1
  apply List.ext_getElem?
  intro j
  rw [List.getElem?_set]
  by_cases hj : j < 8
  · simp only [List.getElem?_map, List.getElem?_range hj, List.length_map, List.length_range, Option.map_some]
    by_cases e : n = j
    · subst e; simp [hn]
    · rw [if_neg e]
      by_cases hlt : j < n
      · rw [if_pos hlt, if_pos (by omega)]
      · rw [if_neg hlt, if_neg (by omega)]
  · rw [if_neg (by omega), List.getElem?_eq_none (by simpa using hj), List.getElem?_eq_none (by simpa using hj)]
theorem plus_all (s r : S8) (n : Nat) (hn : ¬ n < 8) : (List.range 8).map (fun t => if t < n then c32 (s.nth t + r.nth t) else c32 (s.nth t)) = sv (s.plus r) := by
  have h (t : Nat) (ht : t < 8) : (if t < n then c32 (s.nth t + r.nth t) else c32 (s.nth t)) = c32 (s.nth t + r.nth t) := if_pos (by omega)
  simp only [show List.range 8 = [0, 1, 2, 3, 4, 5, 6, 7] from rfl, List.map_cons, List.map_nil]
  rw [h 0 (by omega), h 1 (by omega), h 2 (by omega), h 3 (by omega), h 4 (by omega), h 5 (by omega), h 6 (by omega), h 7 (by omega)]
  rfl

set_option maxHeartbeats 1000000 in
set_option maxRecDepth 100000 in
theorem take_any (w : World) (b : Nat) (T : TypeId) (s : S8) (tl : List Value) (hb : Blk w b T (sv s ++ tl)) (p : Nat → UInt8) (pb po cap : Nat)
    (hp : ∀ j, j < 64 → w.cell? ⟨pb, po + j, none⟩ = some (.int .u8 (p j).toNat)) (_hcap : 64 ≤ cap) (htab : Tab w) :
    Calls Tryd.prog 43 #[.pointer (some ⟨b, 0, none⟩), .slice (some ⟨pb, po, none⟩) 64 cap] w fun e w' =>
      e = .returned (.tuple #[]) ∧ Blk w' b T (sv (s.take p) ++ tl) ∧ w.grownBy w' (some b) := by
  go_enter Tryd.func43, Tryd.ntmps43
  go_wp2
  go_loopw [22] (fun i wr => ∃ k : Nat, k ≤ 16 ∧ i = .int .i64 k ∧ Blk wr w.heap.size 89 (w1 p k) ∧ Below w.heap.size w wr) (fun i _ => 16 - (intOf i).toNat)
  case atStart => exact ⟨0, by omega, rfl, by rw [w1_zero]; exact Blk.new w _ _, (Below.refl _ _).alloc (Nat.le_refl _) _⟩
  case round =>
    obtain ⟨k, hk, rfl, hB, hbel⟩ := hrel
    by_cases hlt : k < 16
    · --[[
      have hpb : pb < w.heap.size := block_lt_of_cell (hp 0 (by omega))
      have e1 : wr.cell? ⟨pb, po + 4*k, none⟩ = some (.int .u8 (p (4*k)).toNat) := by rw [hbel.cell (p := ⟨pb, _, none⟩) hpb]; exact hp _ (by omega)
      have e2 : wr.cell? ⟨pb, po + (4*k+1), none⟩ = some (.int .u8 (p (4*k+1)).toNat) := by rw [hbel.cell (p := ⟨pb, _, none⟩) hpb]; exact hp _ (by omega)
      have e3 : wr.cell? ⟨pb, po + (4*k+2), none⟩ = some (.int .u8 (p (4*k+2)).toNat) := by rw [hbel.cell (p := ⟨pb, _, none⟩) hpb]; exact hp _ (by omega)
      have e4 : wr.cell? ⟨pb, po + (4*k+3), none⟩ = some (.int .u8 (p (4*k+3)).toNat) := by rw [hbel.cell (p := ⟨pb, _, none⟩) hpb]; exact hp _ (by omega)
      have z1 : wr.cell? ⟨w.heap.size, k, none⟩ = some (.int .u32 0) := by rw [hB.cell, w1_get p k k (by omega), if_neg (by omega)]; rfl
      have z2 : wr.frozen? ⟨w.heap.size, k, none⟩ = false := hB.frozen k
      have q0 : IntKind.i64.wrap (4 * (k : Int)) = 4 * (k : Int) := IntWalk.i64_in _ (by omega)
      have q1 : IntKind.i64.wrap (4 * (k : Int) + 1) = 4 * (k : Int) + 1 := IntWalk.i64_in _ (by omega)
      have q2 : IntKind.i64.wrap (4 * (k : Int) + 2) = 4 * (k : Int) + 2 := IntWalk.i64_in _ (by omega)
      have q3 : IntKind.i64.wrap (4 * (k : Int) + 3) = 4 * (k : Int) + 3 := IntWalk.i64_in _ (by omega)
      have t0 : (4 * (k : Int)).toNat = 4 * k := by omega
      have t1 : (4 * (k : Int) + 1).toNat = 4 * k + 1 := by omega
      have t2 : (4 * (k : Int) + 2).toNat = 4 * k + 2 := by omega
      have t3 : (4 * (k : Int) + 3).toNat = 4 * k + 3 := by omega
      have l0 : (0 : Int) ≤ 4 * (k : Int) := by omega
      have l1 : (0 : Int) ≤ 4 * (k : Int) + 1 := by omega
      have l2 : (0 : Int) ≤ 4 * (k : Int) + 2 := by omega
      have l3 : (0 : Int) ≤ 4 * (k : Int) + 3 := by omega
      have m0 : 4 * (k : Int) < 64 := by omega
      have m1 : 4 * (k : Int) + 1 < 64 := by omega
      have m2 : 4 * (k : Int) + 2 < 64 := by omega
      have m3 : 4 * (k : Int) + 3 < 64 := by omega
      have m4 : (k : Int) < 64 := by omega
      have l4 : (0 : Int) ≤ (k : Int) := by omega
      have kp : ∀ o u, ((wr.setCell ⟨w.heap.size, k, none⟩ u).drew).cell? ⟨pb, o, none⟩ = wr.cell? ⟨pb, o, none⟩ := fun o u => World.cell?_setCell_other wr ⟨w.heap.size, k, none⟩ ⟨pb, o, none⟩ u (by intro e; injection e with e; omega)
      go_wp2
      go_region_held3 (fun w' => w'.cell? ⟨pb, po + 4*k, none⟩ = some (.int .u8 (p (4*k)).toNat) ∧ w'.cell? ⟨pb, po + (4*k+1), none⟩ = some (.int .u8 (p (4*k+1)).toNat) ∧ w'.cell? ⟨pb, po + (4*k+2), none⟩ = some (.int .u8 (p (4*k+2)).toNat) ∧ w'.cell? ⟨pb, po + (4*k+3), none⟩ = some (.int .u8 (p (4*k+3)).toNat)) (go_keep) (fail)
      clear e1 e2 e3 e4 z1 z2 q0 q1 q2 q3 t0 t1 t2 t3 l0 l1 l2 l3 m0 m1 m2 m3 kp
      go_wp2
      go_roundw
      case rel =>
        refine ⟨k + 1, by omega, by go_num, ?_, (hbel.setCell (Nat.le_refl _) _).drew⟩
        rw [word_eq, ← sw_lt p k (by omega), ← w1_set p k (by omega)]
        exact (hB.set_ k _).drew
      case measure => simp [intOf]; omega
      --]]
    · have hB16 : Blk wr w.heap.size 89 (w1 p 16) := by rw [← (show k = 16 by omega)]; exact hB
      go_wp2
      go_loopw [6] (fun i wr => ∃ k : Nat, k ≤ 48 ∧ i = .int .i64 ((k : Int) + 16) ∧ Blk wr w.heap.size 89 (w1 p (k + 16)) ∧ Below w.heap.size w wr) (fun i _ => 64 - (intOf i).toNat)
      case atStart => exact ⟨0, by omega, by go_num, hB16, hbel⟩
      clear hB hbel hB16
      case round =>
        clear hk hlt
        obtain ⟨k, hk, rfl, hB, hbel⟩ := hrel
        by_cases hlt : k < 48
        · --[[
          have z1 : wr.cell? ⟨w.heap.size, k + 1, none⟩ = some (.int .u32 (sw p (k + 1)).toNat) := by rw [hB.cell, w1_get p _ _ (by omega), if_pos (by omega)]; rfl
          have z2 : wr.cell? ⟨w.heap.size, k + 14, none⟩ = some (.int .u32 (sw p (k + 14)).toNat) := by rw [hB.cell, w1_get p _ _ (by omega), if_pos (by omega)]; rfl
          have z0 : wr.cell? ⟨w.heap.size, k, none⟩ = some (.int .u32 (sw p k).toNat) := by rw [hB.cell, w1_get p _ _ (by omega), if_pos (by omega)]; rfl
          have z9 : wr.cell? ⟨w.heap.size, k + 9, none⟩ = some (.int .u32 (sw p (k + 9)).toNat) := by rw [hB.cell, w1_get p _ _ (by omega), if_pos (by omega)]; rfl
          have z16 : wr.cell? ⟨w.heap.size, k + 16, none⟩ = some (.int .u32 0) := by rw [hB.cell, w1_get p _ _ (by omega), if_neg (by omega)]; rfl
          have f16 : wr.frozen? ⟨w.heap.size, k + 16, none⟩ = false := hB.frozen _
          have q1 : IntKind.i64.wrap ((k : Int) + 16 - 15) = (k : Int) + 1 := by rw [IntWalk.i64_in _ (by omega)]; omega
          have q2 : IntKind.i64.wrap ((k : Int) + 16 - 2) = (k : Int) + 14 := by rw [IntWalk.i64_in _ (by omega)]; omega
          have q0 : IntKind.i64.wrap (k : Int) = (k : Int) := by rw [IntWalk.i64_in _ (by omega)]
          have q9 : IntKind.i64.wrap ((k : Int) + 16 - 7) = (k : Int) + 9 := by rw [IntWalk.i64_in _ (by omega)]; omega
          have t1 : ((k : Int) + 1).toNat = k + 1 := by omega
          have t9 : ((k : Int) + 9).toNat = k + 9 := by omega
          have t14 : ((k : Int) + 14).toNat = k + 14 := by omega
          have t16 : ((k : Int) + 16).toNat = k + 16 := by omega
          have l0 : (0 : Int) ≤ (k : Int) := by omega
          have l1 : (0 : Int) ≤ (k : Int) + 1 := by omega
          have l9 : (0 : Int) ≤ (k : Int) + 9 := by omega
          have l14 : (0 : Int) ≤ (k : Int) + 14 := by omega
          have l16 : (0 : Int) ≤ (k : Int) + 16 := by omega
          have m0 : (k : Int) < 64 := by omega
          have m1 : (k : Int) + 1 < 64 := by omega
          have m9 : (k : Int) + 9 < 64 := by omega
          have m14 : (k : Int) + 14 < 64 := by omega
          have m16 : (k : Int) + 16 < 64 := by omega
          go_wp2
          have kp : ∀ n u, ((wr.drewN n).setCell ⟨w.heap.size, k + 16, none⟩ u).cell? ⟨w.heap.size, k, none⟩ = some (.int .u32 (sw p k).toNat) := fun n u => (World.cell?_setCell_other (wr.drewN n) ⟨w.heap.size, k + 16, none⟩ ⟨w.heap.size, k, none⟩ u (by intro e; injection e with _ e; omega)).trans z0
          have kq : ∀ n u, ((wr.drewN n).setCell ⟨w.heap.size, k + 16, none⟩ u).cell? ⟨w.heap.size, k + 9, none⟩ = some (.int .u32 (sw p (k + 9)).toNat) := fun n u => (World.cell?_setCell_other (wr.drewN n) ⟨w.heap.size, k + 16, none⟩ ⟨w.heap.size, k + 9, none⟩ u (by intro e; injection e with _ e; omega)).trans z9
          go_quiet (fail)
          go_wp2_with fail
          go_region_held3 (fun w' => w'.cell? ⟨w.heap.size, k, none⟩ = some (.int .u32 (sw p k).toNat) ∧ w'.cell? ⟨w.heap.size, k + 9, none⟩ = some (.int .u32 (sw p (k + 9)).toNat)) (go_keep)
            (first | (go_at_call 44; refine (turn_any _ _ (by decide) (by decide) _).mono ?_; rintro e w' ⟨rfl, nn, rfl⟩))
          clear z0 z1 z2 z9 z16 f16 q0 q1 q2 q9 t1 t9 t14 t16 l0 l1 l9 l14 l16 m0 m1 m9 m14 m16 kp kq
          go_wp2
          go_roundw
          case rel =>
            refine ⟨k + 1, by omega, by go_num, ?_, (below_drewN hbel _).setCell (Nat.le_refl _) _⟩
            have e : sw p k + sg0 (sw p (k + 1)) + sw p (k + 9) + sg1 (sw p (k + 14)) = sw p (k + 16) := (sw_add p k).symm
            rw [sched_eq, e, show k + 1 + 16 = k + 16 + 1 by omega, ← w1_set p (k + 16) (by omega)]
            exact (hB.drewN _).set_ _ _
          case measure => simp [intOf]; omega
          --]]
        · have hB64 : Blk wr w.heap.size 89 (w1 p 64) := by rw [← (show k + 16 = 64 by omega)]; exact hB
          have hbl : b < w.heap.size := hb.lt
          have c0 : wr.cell? ⟨b, 0, none⟩ = some (.int .u32 s.a.toNat) := by rw [hbel.cell (p := ⟨b, _, none⟩) hbl, hb.cell]; rfl
          have c1 : wr.cell? ⟨b, 1, none⟩ = some (.int .u32 s.b.toNat) := by rw [hbel.cell (p := ⟨b, _, none⟩) hbl, hb.cell]; rfl
          have c2 : wr.cell? ⟨b, 2, none⟩ = some (.int .u32 s.c.toNat) := by rw [hbel.cell (p := ⟨b, _, none⟩) hbl, hb.cell]; rfl
          have c3 : wr.cell? ⟨b, 3, none⟩ = some (.int .u32 s.d.toNat) := by rw [hbel.cell (p := ⟨b, _, none⟩) hbl, hb.cell]; rfl
          have c4 : wr.cell? ⟨b, 4, none⟩ = some (.int .u32 s.e.toNat) := by rw [hbel.cell (p := ⟨b, _, none⟩) hbl, hb.cell]; rfl
          have c5 : wr.cell? ⟨b, 5, none⟩ = some (.int .u32 s.f.toNat) := by rw [hbel.cell (p := ⟨b, _, none⟩) hbl, hb.cell]; rfl
          have c6 : wr.cell? ⟨b, 6, none⟩ = some (.int .u32 s.g.toNat) := by rw [hbel.cell (p := ⟨b, _, none⟩) hbl, hb.cell]; rfl
          have c7 : wr.cell? ⟨b, 7, none⟩ = some (.int .u32 s.h.toNat) := by rw [hbel.cell (p := ⟨b, _, none⟩) hbl, hb.cell]; rfl
          clear hB
          go_wp2
          go_quiet (fail)
          clear c0 c1 c2 c3 c4 c5 c6 c7
          go_wp2
          go_loopw [9, 10, 11, 12, 13, 14, 15, 16, 134] (fun va vb vc vd ve vf vg vh i wr => ∃ (n : Nat) (r : S8), n ≤ 64 ∧ i = .int .i64 n ∧ Hid (r = s.rounds p n) ∧ va = .int .u32 r.a.toNat ∧ vb = .int .u32 r.b.toNat ∧ vc = .int .u32 r.c.toNat ∧ vd = .int .u32 r.d.toNat ∧
              ve = .int .u32 r.e.toNat ∧ vf = .int .u32 r.f.toNat ∧ vg = .int .u32 r.g.toNat ∧ vh = .int .u32 r.h.toNat ∧ Blk wr w.heap.size 89 (w1 p 64) ∧ Below w.heap.size w wr) (fun _ _ _ _ _ _ _ _ i _ => 64 - (intOf i).toNat)
          case atStart => exact ⟨0, s, by omega, rfl, Lib.hid rfl, rfl, rfl, rfl, rfl, rfl, rfl, rfl, rfl, hB64.drewN _, below_drewN hbel _⟩
          clear hbel hB64 hlt hk
          case round =>
            obtain ⟨n, r, hn, rfl, hr, rfl, rfl, rfl, rfl, rfl, rfl, rfl, rfl, hB, hbel⟩ := hrel
            by_cases hlt : n < 64
            · have z0 : wr.cell? ⟨0, n, none⟩ = some (.int .u32 (kt n).toNat) := by rw [hbel.cell (p := ⟨_, n, none⟩) (block_lt_of_cell (htab n hlt))]; exact htab n hlt
              have z1 : wr.cell? ⟨w.heap.size, n, none⟩ = some (.int .u32 (sw p n).toNat) := by rw [hB.cell, w1_get p _ _ (by omega), if_pos (by omega)]; rfl
              have m0 : (n : Int) < 64 := by omega
              have l0 : (0 : Int) ≤ (n : Int) := by omega
              go_wp2
              go_quiet ((go_at_call 44; exact Calls.quiet_of (turn_any _ _ (by decide) (by decide) _)))
              clear z0 z1 m0 l0
              go_wp2_with (go_at_call 44; refine (turn_any _ _ (by decide) (by decide) _).mono ?_; rintro e w' ⟨rfl, nn, rfl⟩)
              go_roundw
              case rel =>
                refine ⟨n + 1, r.round (kt n) (sw p n), by omega, by go_num, Lib.hid (by rw [hr.out]; rfl), ?_, rfl, rfl, rfl, ?_, rfl, rfl, rfl, hB.drewN _, below_drewN hbel _⟩
                · rw [xx_eq, yy_eq, u32_add']; rfl
                · rw [xx_eq, u32_add']; rfl
              case measure => simp [intOf]; omega
            · have hr64 : Hid (r = s.rounds p 64) := by rw [hr.out, show n = 64 by omega]; exact Lib.hid rfl
              go_wp2
              clear hr
              go_loopw [206] (fun i wr => ∃ n : Nat, n ≤ 8 ∧ i = .int .i64 n ∧ Blk wr b T ((List.range 8).map (fun t => if t < n then c32 (s.nth t + r.nth t) else c32 (s.nth t)) ++ tl) ∧ w.grownBy wr (some b)) (fun i _ => 8 - (intOf i).toNat)
              case atStart => exact ⟨0, by omega, rfl, hb.below hbel hb.lt, grown_of_below hbel _⟩
              clear hB hbel hlt hn
              case round =>
                obtain ⟨n, hn, rfl, hB, hg⟩ := hrel
                by_cases hlt : n < 8
                · have hidx : ∀ w0, (Instr.index 81 (.agg #[.int .u32 r.a.toNat, .int .u32 r.b.toNat, .int .u32 r.c.toNat, .int .u32 r.d.toNat, .int .u32 r.e.toNat, .int .u32 r.f.toNat, .int .u32 r.g.toNat, .int .u32 r.h.toNat]) (.int .i64 n)).run Tryd.prog w0 = .ok (.int .u32 (r.nth n).toNat) w0 := by
                    intro w0
                    rcases (show n = 0 ∨ n = 1 ∨ n = 2 ∨ n = 3 ∨ n = 4 ∨ n = 5 ∨ n = 6 ∨ n = 7 by omega) with rfl | rfl | rfl | rfl | rfl | rfl | rfl | rfl <;> kernel_rfl
                  have z0 : wr.cell? ⟨b, n, none⟩ = some (.int .u32 (s.nth n).toNat) := by
                    rw [hB.cell, List.getElem?_append_left (by simp; omega), List.getElem?_map, List.getElem?_range hlt]
                    simp [c32]
                  have f0 : wr.frozen? ⟨b, n, none⟩ = false := hB.frozen _
                  have m0 : (n : Int) < 8 := by omega
                  have l0 : (0 : Int) ≤ (n : Int) := by omega
                  go_wp2
                  go_region
                  go_wp2
                  clear hidx z0 f0 m0 l0
                  go_roundw
                  case rel =>
                    refine ⟨n + 1, by omega, by go_num, ?_, grown_drew (grown_setCell hg (.inl rfl) _)⟩
                    rw [u32_add']
                    have := hB.set_ n (c32 (s.nth n + r.nth n))
                    rw [plus_set _ _ _ _ hlt] at this
                    exact this
                  case measure => simp [intOf]; omega
                · go_wp2
                  refine bodyPost_end (results_none rfl _ _ _) rfl ⟨rfl, ?_, hg⟩
                  rw [plus_all _ _ n hlt] at hB
                  unfold S8.take
                  rw [← hr64.out]
                  exact hB
end
end Go.Proofs.YtcmponmgaikkfaaDoor
