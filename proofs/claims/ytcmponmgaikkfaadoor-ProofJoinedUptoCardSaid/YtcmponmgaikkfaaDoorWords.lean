/-
  Arithmetic of bytes and 32-bit words: the model's numbers against Lean's UInt8, UInt32. No program.
-/
import Derived.WalkKit
import Derived.Laws.BitsAllLaws
namespace Go.Proofs.YtcmponmgaikkfaaDoor
open Go.RowKit

section
variable (x y : UInt32) (b : UInt8)
theorem u32_lt : x.toNat < 4294967296 := x.toNat_lt
theorem u8_lt : b.toNat < 256 := b.toNat_lt
theorem u32_add : IntKind.u32.wrap ((x.toNat : Int) + (y.toNat : Int)) = ((x + y).toNat : Int) := by
  rw [IntKind.wrap_u32, UInt32.toNat_add]; omega
theorem u32_add' : ((x.toNat : Int) + (y.toNat : Int)) % 4294967296 = ((x + y).toNat : Int) := by
  rw [UInt32.toNat_add]; omega
theorem u32_xor' : bits .xor .u32 (x.toNat : Int) (y.toNat : Int) = ((x ^^^ y).toNat : Int) := by
  rw [u32_xor_nat _ _ x.toNat_lt y.toNat_lt, UInt32.toNat_xor]
theorem u32_and' : bits .and .u32 (x.toNat : Int) (y.toNat : Int) = ((x &&& y).toNat : Int) := by
  rw [u32_and_nat _ _ x.toNat_lt y.toNat_lt, UInt32.toNat_and]
theorem u32_or' : bits .or .u32 (x.toNat : Int) (y.toNat : Int) = ((x ||| y).toNat : Int) := by
  rw [u32_or_nat _ _ x.toNat_lt y.toNat_lt, UInt32.toNat_or]
theorem u32_of_u8 : IntKind.u32.wrap (b.toNat : Int) = (b.toUInt32.toNat : Int) := by
  have := b.toNat_lt
  rw [IntKind.wrap_u32, UInt8.toNat_toUInt32]; omega
theorem u32_shl (n : Nat) (hn : n < 32) : IntKind.u32.wrap ((x.toNat : Int) * 2 ^ n) = ((x <<< UInt32.ofNat n).toNat : Int) := by
  have h2 : (UInt32.ofNat n).toNat % 32 = n := by
    rw [UInt32.toNat_ofNat_of_lt' (by simp [UInt32.size]; omega)]; omega
  rw [IntKind.wrap_u32, UInt32.toNat_shiftLeft, h2, Nat.shiftLeft_eq]
  show _ = ((x.toNat * 2 ^ n % 4294967296 : Nat) : Int)
  rw [Int.natCast_emod, Int.natCast_mul, Int.natCast_pow]
  rfl
theorem u32_shr (n : Nat) (hn : n < 32) : (x.toNat : Int) / 2 ^ n = ((x >>> UInt32.ofNat n).toNat : Int) := by
  have h2 : (UInt32.ofNat n).toNat % 32 = n := by
    rw [UInt32.toNat_ofNat_of_lt' (by simp [UInt32.size]; omega)]; omega
  rw [UInt32.toNat_shiftRight, h2, Nat.shiftRight_eq_div_pow]
  norm_cast
theorem u32_not' : bits .xor .u32 IntKind.u32.max (x.toNat : Int) = ((~~~x).toNat : Int) := by
  have e : IntKind.u32.max = (((4294967295 : UInt32).toNat : Nat) : Int) := by decide
  rw [e, u32_xor']
  have e2 : (4294967295 : UInt32) ^^^ x = ~~~x := by
    apply UInt32.toBitVec_inj.1
    simp only [UInt32.toBitVec_xor, UInt32.toBitVec_not]
    show BitVec.allOnes 32 ^^^ x.toBitVec = _
    exact BitVec.allOnes_xor
  rw [e2]
theorem u8_of_u32 : IntKind.u8.wrap (x.toNat : Int) = (x.toUInt8.toNat : Int) := by
  rw [IntKind.wrap_u8, UInt32.toNat_toUInt8]; omega
theorem u32_shl24 : IntKind.u32.wrap ((x.toNat : Int) * 16777216) = ((x <<< 24).toNat : Int) := u32_shl x 24 (by decide)
theorem u32_shl16 : IntKind.u32.wrap ((x.toNat : Int) * 65536) = ((x <<< 16).toNat : Int) := u32_shl x 16 (by decide)
theorem u32_shl8 : IntKind.u32.wrap ((x.toNat : Int) * 256) = ((x <<< 8).toNat : Int) := u32_shl x 8 (by decide)
theorem u32_shr3 : (x.toNat : Int) / (8 : Int) = ((x >>> 3).toNat : Int) := u32_shr x 3 (by decide)
theorem u32_shr10 : (x.toNat : Int) / (1024 : Int) = ((x >>> 10).toNat : Int) := u32_shr x 10 (by decide)
end
end Go.Proofs.YtcmponmgaikkfaaDoor
