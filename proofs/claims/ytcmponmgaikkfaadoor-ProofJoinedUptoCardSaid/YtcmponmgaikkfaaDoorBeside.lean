/-
  proof.beside: how many digests the way of a number in a size has.
-/
import Derived.Test.YtcmponmgaikkfaaDoorLegal
namespace Go.Proofs.YtcmponmgaikkfaaDoor
open Go.RowKit

def inB (size number : Int) : Bool := decide (1 ≤ size ∧ size ≤ 1099511627776 ∧ 0 ≤ number ∧ number < size)
def besideC (size number : Int) (l : Nat) : Prop := wrap64 (bits BinOp.xor IntKind.i64 (number / 2 ^ l) 1 * 2 ^ l) < size
instance (size number : Int) (l : Nat) : Decidable (besideC size number l) := inferInstanceAs (Decidable (_ < _))
def besideCnt (size number : Int) : Nat → Nat
  | 0 => 0
  | l + 1 => besideCnt size number l + if besideC size number l then 1 else 0
def besideLev (size : Int) : Nat → Nat → Nat
  | 0, l => l
  | f + 1, l => if wrap64 (2 ^ l) < size then besideLev size f (l + 1) else l
def besideN (size number : Int) : Nat := if inB size number then besideCnt size number (besideLev size 41 0) else 0
theorem besideCnt_le (size number : Int) (l : Nat) : besideCnt size number l ≤ l := by
  induction l with
  | zero => exact Nat.le_refl _
  | succ l ih => unfold besideCnt; split <;> omega
theorem cnt_yes {size number : Int} {l : Nat} (h : besideC size number l) : besideCnt size number (l + 1) = besideCnt size number l + 1 := by simp [besideCnt, h]
theorem cnt_no {size number : Int} {l : Nat} (h : ¬ besideC size number l) : besideCnt size number (l + 1) = besideCnt size number l := by simp [besideCnt, h]
theorem besideLev_le (size : Int) : ∀ f l, besideLev size f l ≤ f + l
  | 0, l => by simp [besideLev]
  | f + 1, l => by
    unfold besideLev
    split
    · have := besideLev_le size f (l + 1); omega
    · omega
theorem besideN_le (size number : Int) : besideN size number ≤ 41 := by
  unfold besideN
  split
  · exact Nat.le_trans (besideCnt_le _ _ _) (besideLev_le size 41 0)
  · omega
theorem wrap_pow (l : Nat) (h : l ≤ 40) : wrap64 (2 ^ l) = 2 ^ l := by
  have h1 : (2 : Int) ^ l ≤ 2 ^ 40 := by exact_mod_cast Nat.pow_le_pow_right (n := 2) (by decide) h
  have h2 : (0 : Int) < 2 ^ l := by exact_mod_cast Nat.pow_pos (n := l) (a := 2) (by decide)
  unfold wrap64
  generalize (2 : Int) ^ l = x at h1 h2
  omega
theorem lev_go {size : Int} {l : Nat} (h : wrap64 (2 ^ l) < size) (hs : size ≤ 1099511627776) (hl : l ≤ 40) : l < 40 := by
  rcases Nat.lt_or_ge l 40 with h' | h'
  · exact h'
  · obtain rfl : l = 40 := by omega
    rw [wrap_pow 40 (by omega)] at h
    have : (2 : Int) ^ 40 = 1099511627776 := by decide
    omega
theorem lev_step {size : Int} {l : Nat} (h : wrap64 (2 ^ l) < size) (hl : l < 41) (he : besideLev size (41 - l) l = besideLev size 41 0) : besideLev size (41 - (l + 1)) (l + 1) = besideLev size 41 0 := by
  rw [← he, show 41 - l = (41 - (l + 1)) + 1 by omega]
  conv => rhs; unfold besideLev
  rw [if_pos h]
theorem lev_stop {size : Int} {l : Nat} (h : ¬ wrap64 (2 ^ l) < size) (hl : l < 41) (he : besideLev size (41 - l) l = besideLev size 41 0) : besideLev size 41 0 = l := by
  rw [← he, show 41 - l = (41 - (l + 1)) + 1 by omega]
  unfold besideLev
  rw [if_neg h]

set_option maxRecDepth 100000 in
theorem beside_any (w : World) (size number : Int) : Calls Tryd.prog 40 #[.int .i64 size, .int .i64 number] w fun e w' => e = .returned (.tuple #[.int .i64 (besideN size number : Nat), .bool (inB size number)]) ∧ w' = w := by
  go_enter Tryd.func40, Tryd.ntmps40
  by_cases h0 : 1 ≤ size ∧ size ≤ 1099511627776 ∧ 0 ≤ number ∧ number < size
  · have Hin := Lib.hid (show inB size number = true from decide_eq_true h0)
    obtain ⟨h1, h2, h3, h4⟩ := h0
    go_wp2
    go_loopw [6, 7] (fun nv lv wr => ∃ l : Nat, l ≤ 40 ∧ nv = .int .i64 (besideCnt size number l : Nat) ∧ lv = .int .i64 (l : Int) ∧ Hid (besideLev size (41 - l) l = besideLev size 41 0) ∧ wr = w) (fun _ lv _ => 40 - (intOf lv).toNat)
    case atStart => exact ⟨0, by omega, rfl, rfl, Lib.hid rfl, rfl⟩
    case round =>
      obtain ⟨l, hl, rfl, rfl, he, rfl⟩ := hrel
      have hcl := besideCnt_le size number l
      by_cases hgo : wrap64 (2 ^ l) < size
      · have hl4 := lev_go hgo h2 hl
        have hst := Lib.hid (lev_step hgo (by omega) he.out)
        by_cases hc : wrap64 (bits BinOp.xor IntKind.i64 (number / 2 ^ l) 1 * 2 ^ l) < size
        · have Hc := Lib.hid (show besideCnt size number (l + 1) = besideCnt size number l + 1 from cnt_yes hc)
          go_wp2
          go_roundw
          case rel => exact ⟨l + 1, by omega, by rw [Hc.out]; go_num, by go_num, hst, trivial⟩
          case measure => simp [intOf]; omega
        · have Hc := Lib.hid (show besideCnt size number (l + 1) = besideCnt size number l from cnt_no hc)
          go_wp2
          go_roundw
          case rel => exact ⟨l + 1, by omega, by rw [Hc.out], by go_num, hst, trivial⟩
          case measure => simp [intOf]; omega
      · have hst := Lib.hid (lev_stop hgo (by omega) he.out)
        have Hn := Lib.hid (show besideN size number = besideCnt size number l by unfold besideN; rw [Hin.out, if_pos rfl, hst.out])
        go_wp2
        exact bodyPost_ret (results_tmp2 rfl _ _ _) rfl ⟨by rw [Hn.out, Hin.out]; rfl, rfl⟩
  · have Hin := Lib.hid (show inB size number = false from decide_eq_false h0)
    have Hn := Lib.hid (show besideN size number = 0 by unfold besideN; rw [Hin.out]; rfl)
    go_wp2
    all_goals first
      | exact bodyPost_ret (results_tmp2 rfl _ _ _) rfl ⟨by rw [Hn.out, Hin.out]; rfl, rfl⟩
      | (exfalso; omega)
end Go.Proofs.YtcmponmgaikkfaaDoor
