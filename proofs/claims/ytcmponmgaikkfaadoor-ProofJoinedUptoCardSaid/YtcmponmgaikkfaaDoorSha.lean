/-
  SHA-256 in plain Lean, in the program's own shape. No program.
-/
import Derived.Test.YtcmponmgaikkfaaDoorWords
namespace Go.Proofs.YtcmponmgaikkfaaDoor

def rot (x : UInt32) (n : Nat) : UInt32 := x >>> UInt32.ofNat n ||| x <<< UInt32.ofNat (32 - n)
def sg0 (x : UInt32) : UInt32 := rot x 7 ^^^ rot x 18 ^^^ x >>> 3
def sg1 (x : UInt32) : UInt32 := rot x 17 ^^^ rot x 19 ^^^ x >>> 10
def bg1 (x : UInt32) : UInt32 := rot x 6 ^^^ rot x 11 ^^^ rot x 25
def bg0 (x : UInt32) : UInt32 := rot x 2 ^^^ rot x 13 ^^^ rot x 22
def ch (e f g : UInt32) : UInt32 := e &&& f ^^^ ~~~e &&& g
def maj (a b c : UInt32) : UInt32 := a &&& b ^^^ a &&& c ^^^ b &&& c

def kts : List Nat := [1116352408, 1899447441, 3049323471, 3921009573, 961987163, 1508970993, 2453635748, 2870763221, 3624381080, 310598401, 607225278, 1426881987, 1925078388, 2162078206, 2614888103, 3248222580, 3835390401, 4022224774, 264347078, 604807628, 770255983, 1249150122, 1555081692, 1996064986, 2554220882, 2821834349, 2952996808, 3210313671, 3336571891, 3584528711, 113926993, 338241895, 666307205, 773529912, 1294757372, 1396182291, 1695183700, 1986661051, 2177026350, 2456956037, 2730485921, 2820302411, 3259730800, 3345764771, 3516065817, 3600352804, 4094571909, 275423344, 430227734, 506948616, 659060556, 883997877, 958139571, 1322822218, 1537002063, 1747873779, 1955562222, 2024104815, 2227730452, 2361852424, 2428436474, 2756734187, 3204031479, 3329325298]
def kt (t : Nat) : UInt32 := UInt32.ofNat (kts.getD t 0)

/-- Word t of a block. -/
def word (p : Nat → UInt8) (t : Nat) : UInt32 :=
  (p (4 * t)).toUInt32 <<< 24 ||| (p (4 * t + 1)).toUInt32 <<< 16 ||| (p (4 * t + 2)).toUInt32 <<< 8 ||| (p (4 * t + 3)).toUInt32

/-- The schedule's word t. -/
def sw (p : Nat → UInt8) (t : Nat) : UInt32 :=
  if _h : t < 16 then word p t else sw p (t - 16) + sg0 (sw p (t - 15)) + sw p (t - 7) + sg1 (sw p (t - 2))
termination_by t
theorem sw_lt (p : Nat → UInt8) (t : Nat) (h : t < 16) : sw p t = word p t := by rw [sw, dif_pos h]
theorem sw_add (p : Nat → UInt8) (k : Nat) : sw p (k + 16) = sw p k + sg0 (sw p (k + 1)) + sw p (k + 9) + sg1 (sw p (k + 14)) := by
  rw [sw, dif_neg (by omega)]; rfl

/-- The eight numbers. -/
structure S8 where
  a : UInt32
  b : UInt32
  c : UInt32
  d : UInt32
  e : UInt32
  f : UInt32
  g : UInt32
  h : UInt32

def S8.xx (s : S8) (k w : UInt32) : UInt32 := s.h + bg1 s.e + ch s.e s.f s.g + k + w
def S8.yy (s : S8) : UInt32 := bg0 s.a + maj s.a s.b s.c
def S8.round (s : S8) (k w : UInt32) : S8 := ⟨s.xx k w + s.yy, s.a, s.b, s.c, s.d + s.xx k w, s.e, s.f, s.g⟩
def S8.rounds (s : S8) (p : Nat → UInt8) : Nat → S8
  | 0 => s
  | n + 1 => (s.rounds p n).round (kt n) (sw p n)
def S8.plus (s r : S8) : S8 := ⟨s.a + r.a, s.b + r.b, s.c + r.c, s.d + r.d, s.e + r.e, s.f + r.f, s.g + r.g, s.h + r.h⟩
/-- One block taken in. -/
def S8.take (s : S8) (p : Nat → UInt8) : S8 := s.plus (s.rounds p 64)
def S8.nth (s : S8) : Nat → UInt32
  | 0 => s.a
  | 1 => s.b
  | 2 => s.c
  | 3 => s.d
  | 4 => s.e
  | 5 => s.f
  | 6 => s.g
  | _ => s.h
def s8Begin : S8 := ⟨1779033703, 3144134277, 1013904242, 2773480762, 1359893119, 2600822924, 528734635, 1541459225⟩

def c32 (x : UInt32) : Value := .int .u32 x.toNat
def sv (s : S8) : List Value := [c32 s.a, c32 s.b, c32 s.c, c32 s.d, c32 s.e, c32 s.f, c32 s.g, c32 s.h]
/-- n words. -/
def u32s (n : Nat) (f : Nat → UInt32) : List Value := (List.range n).map fun t => c32 (f t)
end Go.Proofs.YtcmponmgaikkfaaDoor
