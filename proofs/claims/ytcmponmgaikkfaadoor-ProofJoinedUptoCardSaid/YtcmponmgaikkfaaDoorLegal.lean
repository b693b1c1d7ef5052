/-
  octet.Legal, proof.named, headBytes, rowBytes: small functions that only read.
-/
import Derived.Test.YtcmponmgaikkfaaDoorOf
namespace Go.Proofs.YtcmponmgaikkfaaDoor
open Go.RowKit

/-- May a name hold that byte? -/
def okB (c : UInt8) : Bool := decide (¬ (((c.toNat < 97 ∨ 122 < c.toNat) ∧ (c.toNat < 48 ∨ 57 < c.toNat)) ∧ c.toNat ≠ 45))
def legalB (s : ByteArray) : Bool := decide (0 < s.size) && decide (s.size ≤ 64) && s.data.toList.all okB
def namedB (s : ByteArray) : Bool := s.toList.isEmpty || legalB s
theorem toList_loop_length (s : ByteArray) : ∀ n i r, s.size - i = n → (ByteArray.toList.loop s i r).length = r.length + n := by
  intro n
  induction n with
  | zero => intro i r h; unfold ByteArray.toList.loop; rw [if_neg (by omega)]; simp
  | succ n ih => intro i r h; unfold ByteArray.toList.loop; rw [if_pos (by omega), ih (i + 1) _ (by omega)]; simp; omega
theorem toList_size (s : ByteArray) : s.toList.length = s.size := by
  unfold ByteArray.toList
  rw [toList_loop_length s s.size 0 [] (by omega)]
  simp
theorem namedB_size {s : ByteArray} (h : namedB s = true) : s.size ≤ 64 := by
  unfold namedB legalB at h
  simp at h
  rcases h with h | h
  · rw [← toList_size, h]; decide
  · exact h.1.2
theorem data_get (s : ByteArray) (k : Nat) (hk : k < s.size) : s.data.toList[k]? = some s[k] := by
  rw [Array.getElem?_toList, Array.getElem?_eq_getElem hk]
  rfl
theorem legal_bad (s : ByteArray) (k : Nat) (hk : k < s.size) (h : okB s[k] = false) : legalB s = false := by
  have hm : s[k] ∈ s.data.toList := List.mem_of_getElem? (data_get s k hk)
  have : s.data.toList.all okB = false := by
    rw [List.all_eq_false]
    exact ⟨_, hm, by rw [h]; simp⟩
  unfold legalB
  rw [this, Bool.and_false]
theorem legal_more (s : ByteArray) (k : Nat) (hk : k < s.size) (h : (s.data.toList.take k).all okB = true) (h' : okB s[k] = true) : (s.data.toList.take (k + 1)).all okB = true := by
  rw [List.take_add_one, data_get s k hk, List.all_append, h]
  simp [h']
theorem legal_all (s : ByteArray) (k : Nat) (hk : s.size ≤ k) (h0 : ¬ s.size = 0) (h1 : s.size ≤ 64) (h : (s.data.toList.take k).all okB = true) : legalB s = true := by
  rw [List.take_of_length_le (by rw [Array.length_toList]; exact hk)] at h
  unfold legalB
  rw [h]
  simp [h1]
  omega

set_option maxRecDepth 100000 in
theorem legal_any (w : World) (s : ByteArray) (hs : s.size < 4294967296) : Calls Tryd.prog 39 #[.string s, .int .i64 64] w fun e w' => e = .returned (.bool (legalB s)) ∧ w' = w := by
  go_enter Tryd.func39, Tryd.ntmps39
  by_cases h0 : s.size = 0
  · go_wp2
    go_ret
    exact ⟨by simp [legalB, h0], rfl⟩
  · by_cases h1 : s.size ≤ 64
    · have h2 : ((s.size : Int) == 0) = false := by rw [beq_eq_false_iff_ne]; omega
      go_wp2
      go_loopw [18] (fun iv wr => ∃ k : Nat, k ≤ s.size ∧ iv = .int .i64 (k : Int) ∧ wr = w ∧ (s.data.toList.take k).all okB = true) (fun iv _ => s.size - (intOf iv).toNat)
      case atStart => exact ⟨0, by omega, rfl, rfl, by simp⟩
      case round =>
        obtain ⟨k, hk, rfl, rfl, hall⟩ := hrel
        by_cases hlt : k < s.size
        · go_wp2
          all_goals (try simp only [bne_iff_ne, bne_eq_false_iff_eq] at *)
          all_goals first
            | (have hbad : okB s[k] = false := decide_eq_false (by omega)
               go_ret
               exact ⟨by rw [legal_bad s k hlt hbad]; rfl, rfl⟩)
            | (have hgood : okB s[k] = true := decide_eq_true (by omega)
               go_roundw
               case rel => exact ⟨k + 1, by omega, by go_num, trivial, legal_more s k hlt hall hgood⟩
               case measure => simp [intOf]; omega)
        · go_wp2
          go_ret
          exact ⟨by rw [legal_all s k (by omega) h0 h1 hall]; rfl, rfl⟩
    · have h2 : ((s.size : Int) == 0) = false := by rw [beq_eq_false_iff_ne]; omega
      go_wp2
      go_ret
      exact ⟨by simp [legalB, h1], rfl⟩

theorem named_any (w : World) (s : ByteArray) (hs : s.size < 4294967296) : Calls Tryd.prog 26 #[.string s] w fun e w' => e = .returned (.bool (namedB s)) ∧ w' = w := by
  go_enter Tryd.func26, Tryd.ntmps26
  go_wp2_with (first
    | (go_at_call 39; refine (legal_any _ s hs).mono ?_; rintro e w1 ⟨rfl, rfl⟩))
  · go_ret
    refine ⟨?_, rfl⟩
    unfold namedB
    simp [*]
  · go_ret
    exact ⟨rfl, rfl⟩

theorem headBytes_any (w : World) (s : ByteArray) (hs : s.size < 4294967296) : Calls Tryd.prog 27 #[.string s] w fun e w' => e = .returned (.int .i64 (54 + s.size : Nat)) ∧ w' = w := by
  go_enter Tryd.func27, Tryd.ntmps27
  go_wp2
  go_ret
  refine ⟨congrArg (fun x => Ending.returned (.int .i64 x)) (show (2 : Int) + s.size + 8 + 32 + 8 + 4 = _ by omega), rfl⟩
end Go.Proofs.YtcmponmgaikkfaaDoor
