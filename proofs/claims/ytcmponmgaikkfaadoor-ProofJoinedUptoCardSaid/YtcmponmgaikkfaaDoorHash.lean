/-
  SHA-256 over a text, in plain Lean: the state behind k blocks, the padding, the digest. No program.
-/
import Derived.Test.YtcmponmgaikkfaaDoorSha
import Derived.Test.YtcmponmgaikkfaaDoorMem
namespace Go.Proofs.YtcmponmgaikkfaaDoor

theorem word_congr {p q : Nat → UInt8} (h : ∀ j, j < 64 → p j = q j) (t : Nat) (ht : t < 16) : word p t = word q t := by
  unfold word; rw [h _ (by omega), h _ (by omega), h _ (by omega), h _ (by omega)]
theorem sw_congr {p q : Nat → UInt8} (h : ∀ j, j < 64 → p j = q j) (t : Nat) : sw p t = sw q t := by
  induction t using Nat.strongRecOn with
  | _ t ih =>
    rcases Nat.lt_or_ge t 16 with hlt | hge
    · rw [sw_lt _ _ hlt, sw_lt _ _ hlt, word_congr h t hlt]
    · obtain ⟨k, rfl⟩ : ∃ k, t = k + 16 := ⟨t - 16, by omega⟩
      rw [sw_add, sw_add, ih _ (by omega), ih _ (by omega), ih _ (by omega), ih _ (by omega)]
theorem rounds_congr {p q : Nat → UInt8} (h : ∀ j, j < 64 → p j = q j) (s : S8) (n : Nat) : s.rounds p n = s.rounds q n := by
  induction n with
  | zero => rfl
  | succ n ih => simp only [S8.rounds, ih, sw_congr h]
theorem take_congr {p q : Nat → UInt8} (h : ∀ j, j < 64 → p j = q j) (s : S8) : s.take p = s.take q := by
  unfold S8.take; rw [rounds_congr h]

/-- Block k of a text. -/
def blk (m : List UInt8) (k : Nat) : Nat → UInt8 := fun j => m.getD (64 * k + j) 0
/-- The state behind the first k blocks of a text. -/
def hs (m : List UInt8) : Nat → S8
  | 0 => s8Begin
  | k + 1 => (hs m k).take (blk m k)
theorem hs_append (m l : List UInt8) (k : Nat) (h : 64 * k ≤ m.length) : hs (m ++ l) k = hs m k := by
  induction k with
  | zero => rfl
  | succ k ih =>
    simp only [hs]
    rw [ih (by omega)]
    refine take_congr (fun j hj => ?_) _
    unfold blk
    rw [List.getD_eq_getElem?_getD, List.getD_eq_getElem?_getD, List.getElem?_append_left (by omega)]

theorem hs_fill (m x rest : List UInt8) (hr : rest.take (m.length % 64) = m.drop (m.length / 64 * 64)) (hx : m.length % 64 + x.length = 64) :
    hs (m ++ x) ((m ++ x).length / 64) = (hs m (m.length / 64)).take fun j => (rest.take (m.length % 64) ++ x).getD j 0 := by
  have e : (m ++ x).length / 64 = m.length / 64 + 1 := by rw [List.length_append]; omega
  rw [e]
  simp only [hs]
  rw [hs_append _ _ _ (by omega)]
  refine take_congr (fun j _ => ?_) _
  unfold blk
  rw [hr, List.getD_eq_getElem?_getD, List.getD_eq_getElem?_getD, show m.drop (m.length / 64 * 64) ++ x = (m ++ x).drop (m.length / 64 * 64) by
    rw [List.drop_append_of_le_length (by omega)], List.getElem?_drop, Nat.mul_comm 64]
theorem hs_more (m x : List UInt8) (hx : m.length % 64 + x.length < 64) : hs (m ++ x) ((m ++ x).length / 64) = hs m (m.length / 64) := by
  have e : (m ++ x).length / 64 = m.length / 64 := by rw [List.length_append]; omega
  rw [e, hs_append _ _ _ (by omega)]
/-- The padding of a text of n bytes. -/
def padZeros (n : Nat) : Nat := (119 - n % 64) % 64
def be64 (n : Nat) : List UInt8 := (List.range 8).map fun i => UInt8.ofNat (n / 2 ^ (56 - 8 * i))
def padding (n : Nat) : List UInt8 := 128 :: (List.replicate (padZeros n) 0 ++ be64 (8 * n))
theorem padded_length (n : Nat) : 64 ∣ n + (padding n).length := by
  simp [padding, padZeros, be64]
  omega
def digestOf (s : S8) : List UInt8 := (List.range 32).map fun i => UInt8.ofNat ((s.nth (i / 4)).toNat / 2 ^ (24 - 8 * (i % 4)))
theorem digestOf_length (s : S8) : (digestOf s).length = 32 := by simp [digestOf]
/-- SHA-256. -/
def sha (m : List UInt8) : List UInt8 := digestOf (hs (m ++ padding m.length) ((m.length + (padding m.length).length) / 64))
theorem sha_length (m : List UInt8) : (sha m).length = 32 := digestOf_length _
end Go.Proofs.YtcmponmgaikkfaaDoor
