/-
  octet.width: how many bytes a number has. Printed by wip/tools/gen-wid.py.
-/
import Derived.Test.YtcmponmgaikkfaaDoorProg
import Derived.Test.YtcmponmgaikkfaaDoorLaws
namespace Go.Proofs.YtcmponmgaikkfaaDoor
open Go.RowKit

theorem ones_zero (n : Nat) (h : ((2 ^ n - 1 : Nat) : Int) = 0) : n = 0 := by
  cases n with
  | zero => rfl
  | succ n => have := Nat.one_le_two_pow (n := n); rw [Nat.pow_succ] at h; omega
theorem ones_half (n : Nat) (h : 0 < n) : ((2 ^ n - 1 : Nat) : Int) / 2 = ((2 ^ (n - 1) - 1 : Nat) : Int) := by
  obtain ⟨m, rfl⟩ : ∃ m, n = m + 1 := ⟨n - 1, by omega⟩
  rw [Nat.add_sub_cancel]
  have := Nat.one_le_two_pow (n := m)
  rw [Nat.pow_succ]
  omega

theorem width1_any (w : World) : Calls Tryd.prog 30 #[] w fun e w' => e = .returned (.int .i64 1) ∧ w' = w := by
  go_enter Tryd.func30, Tryd.ntmps30
  go_wp2
  go_loopw [1, 2] (fun n m wr => ∃ k : Nat, k ≤ 1 ∧ n = .int .i64 (k : Int) ∧ m = .int .u8 ((2 ^ (8 * (1 - k)) - 1 : Nat) : Int) ∧ wr = w) (fun n _ _ => 1 - (intOf n).toNat)
  case atStart => exact ⟨0, by omega, rfl, rfl, rfl⟩
  case round =>
    obtain ⟨k, hk, rfl, rfl, rfl⟩ := hrel
    by_cases hlt : k < 1
    · have hne : (((2 ^ (8 * (1 - k)) - 1 : Nat) : Int) != 0) = true := by
        rw [bne_iff_ne]; intro e; have := ones_zero _ e; omega
      go_wp2
      go_loopw [9, 2] (fun c m wi => ∃ j : Nat, j ≤ 8 ∧ c = .int .i64 (j : Int) ∧ m = .int .u8 ((2 ^ (8 * (1 - k) - j) - 1 : Nat) : Int) ∧ wi = wr) (fun c _ _ => 8 - (intOf c).toNat)
      case atStart => exact ⟨0, by omega, rfl, rfl, rfl⟩
      case round =>
        obtain ⟨j, hj, rfl, rfl, rfl⟩ := hrel
        by_cases hlj : j < 8
        · go_wp2
          go_roundw
          case rel => exact ⟨j + 1, by omega, by go_num, by rw [ones_half (8 * (1 - k) - j) (by omega), Nat.sub_sub], trivial⟩
          case measure => simp [intOf]; omega
        · go_wp2
          go_roundw
          case rel => exact ⟨k + 1, by omega, by go_num, by rw [show 8 * (1 - k) - j = 8 * (1 - (k + 1)) by omega], trivial⟩
          case measure => simp [intOf]; omega
    · have : k = 1 := by omega
      subst this
      go_wp2
      all_goals go_ret
      exact ⟨rfl, rfl⟩

theorem width4_any (w : World) : Calls Tryd.prog 33 #[] w fun e w' => e = .returned (.int .i64 4) ∧ w' = w := by
  go_enter Tryd.func33, Tryd.ntmps33
  go_wp2
  go_loopw [1, 2] (fun n m wr => ∃ k : Nat, k ≤ 4 ∧ n = .int .i64 (k : Int) ∧ m = .int .u32 ((2 ^ (8 * (4 - k)) - 1 : Nat) : Int) ∧ wr = w) (fun n _ _ => 4 - (intOf n).toNat)
  case atStart => exact ⟨0, by omega, rfl, rfl, rfl⟩
  case round =>
    obtain ⟨k, hk, rfl, rfl, rfl⟩ := hrel
    by_cases hlt : k < 4
    · have hne : (((2 ^ (8 * (4 - k)) - 1 : Nat) : Int) != 0) = true := by
        rw [bne_iff_ne]; intro e; have := ones_zero _ e; omega
      go_wp2
      go_loopw [9, 2] (fun c m wi => ∃ j : Nat, j ≤ 8 ∧ c = .int .i64 (j : Int) ∧ m = .int .u32 ((2 ^ (8 * (4 - k) - j) - 1 : Nat) : Int) ∧ wi = wr) (fun c _ _ => 8 - (intOf c).toNat)
      case atStart => exact ⟨0, by omega, rfl, rfl, rfl⟩
      case round =>
        obtain ⟨j, hj, rfl, rfl, rfl⟩ := hrel
        by_cases hlj : j < 8
        · go_wp2
          go_roundw
          case rel => exact ⟨j + 1, by omega, by go_num, by rw [ones_half (8 * (4 - k) - j) (by omega), Nat.sub_sub], trivial⟩
          case measure => simp [intOf]; omega
        · go_wp2
          go_roundw
          case rel => exact ⟨k + 1, by omega, by go_num, by rw [show 8 * (4 - k) - j = 8 * (4 - (k + 1)) by omega], trivial⟩
          case measure => simp [intOf]; omega
    · have : k = 4 := by omega
      subst this
      go_wp2
      all_goals go_ret
      exact ⟨rfl, rfl⟩

theorem width8_any (w : World) : Calls Tryd.prog 41 #[] w fun e w' => e = .returned (.int .i64 8) ∧ w' = w := by
  go_enter Tryd.func41, Tryd.ntmps41
  go_wp2
  go_loopw [1, 2] (fun n m wr => ∃ k : Nat, k ≤ 8 ∧ n = .int .i64 (k : Int) ∧ m = .int .u64 ((2 ^ (8 * (8 - k)) - 1 : Nat) : Int) ∧ wr = w) (fun n _ _ => 8 - (intOf n).toNat)
  case atStart => exact ⟨0, by omega, rfl, rfl, rfl⟩
  case round =>
    obtain ⟨k, hk, rfl, rfl, rfl⟩ := hrel
    by_cases hlt : k < 8
    · have hne : (((2 ^ (8 * (8 - k)) - 1 : Nat) : Int) != 0) = true := by
        rw [bne_iff_ne]; intro e; have := ones_zero _ e; omega
      go_wp2
      go_loopw [9, 2] (fun c m wi => ∃ j : Nat, j ≤ 8 ∧ c = .int .i64 (j : Int) ∧ m = .int .u64 ((2 ^ (8 * (8 - k) - j) - 1 : Nat) : Int) ∧ wi = wr) (fun c _ _ => 8 - (intOf c).toNat)
      case atStart => exact ⟨0, by omega, rfl, rfl, rfl⟩
      case round =>
        obtain ⟨j, hj, rfl, rfl, rfl⟩ := hrel
        by_cases hlj : j < 8
        · go_wp2
          go_roundw
          case rel => exact ⟨j + 1, by omega, by go_num, by rw [ones_half (8 * (8 - k) - j) (by omega), Nat.sub_sub], trivial⟩
          case measure => simp [intOf]; omega
        · go_wp2
          go_roundw
          case rel => exact ⟨k + 1, by omega, by go_num, by rw [show 8 * (8 - k) - j = 8 * (8 - (k + 1)) by omega], trivial⟩
          case measure => simp [intOf]; omega
    · have : k = 8 := by omega
      subst this
      go_wp2
      all_goals go_ret
      exact ⟨rfl, rfl⟩

end Go.Proofs.YtcmponmgaikkfaaDoor
