/-
  digest.turn: a number turned right.
-/
import Derived.Test.YtcmponmgaikkfaaDoorProg
import Derived.Test.YtcmponmgaikkfaaDoorSha
import Derived.Test.YtcmponmgaikkfaaDoorMem
import Derived.BigQuiet
import Derived.Deep.QuietTactic
namespace Go.Proofs.YtcmponmgaikkfaaDoor
open Go.RowKit

theorem rot_eq (x : UInt32) (n : Int) (h0 : 1 ≤ n) (h1 : n ≤ 31) :
    bits .or .u32 ((x.toNat : Int) / 2 ^ n.toNat) ((x.toNat : Int) * 2 ^ (32 - n).toNat % 4294967296) = ((rot x n.toNat).toNat : Int) := by
  have e : (32 - n).toNat = 32 - n.toNat := by omega
  have h2 := u32_shl x (32 - n.toNat) (by omega)
  rw [IntKind.wrap_u32] at h2
  rw [u32_shr x n.toNat (by omega), e, h2, u32_or']
  rfl

theorem turn_any (x : UInt32) (n : Int) (h0 : 1 ≤ n) (h1 : n ≤ 31) (w : World) :
    Calls Tryd.prog 44 #[.int .u32 x.toNat, .int .i64 n] w fun e w' => e = .returned (.int .u32 (rot x n.toNat).toNat) ∧ ∃ n, w' = w.drewN n := by
  have H := Lib.hid (rot_eq x n h0 h1)
  go_enter Tryd.func44, Tryd.ntmps44
  go_wp2
  go_quiet (fail)
  go_wp2
  go_ret
  exact ⟨by rw [H.out]; rfl, _, rfl⟩
end Go.Proofs.YtcmponmgaikkfaaDoor
