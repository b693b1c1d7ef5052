/-
  The plain law of pieces: which histories are cut; each piece is the longest; what a cut of the history into two leaves.
-/
import Derived.Test.YtcmponmgaikkfaaDoorPs
namespace Go.Proofs.YtcmponmgaikkfaaDoor

theorem getD_drop {α : Type} [Inhabited α] (l : List α) (k j : Nat) (d : α) : (l.drop k).getD j d = l.getD (k + j) d := by simp [List.getD_eq_getElem?_getD, List.getElem?_drop]
theorem getD_take {α : Type} [Inhabited α] (l : List α) (m j : Nat) (d : α) (h : j < m) : (l.take m).getD j d = l.getD j d := by simp [List.getD_eq_getElem?_getD, h]
theorem bytesTo_ge (s : ByteArray) (ls : List (List UInt8)) (qs : List Inc) (j : Nat) : 54 + s.size ≤ bytesTo s ls qs j := by
  induction j with
  | zero => exact Nat.le_refl _
  | succ j ih => unfold bytesTo; omega
theorem bytesTo_take (s : ByteArray) (ls : List (List UInt8)) (qs : List Inc) (m : Nat) : ∀ j, j ≤ m → bytesTo s (ls.take m) (qs.take m) j = bytesTo s ls qs j
  | 0, _ => rfl
  | j + 1, h => by
    unfold bytesTo
    rw [bytesTo_take s ls qs m j (by omega), getD_take _ _ _ _ (by omega), getD_take _ _ _ _ (by omega)]
theorem badB_take (s : ByteArray) (f : Int) (ls : List (List UInt8)) (qs : List Inc) (m j : Nat) (h : j < m) : badB s f (ls.take m) (qs.take m) j = badB s f ls qs j := by
  unfold badB rowAt sz
  rw [bytesTo_take s ls qs m (j + 1) (by omega), getD_take _ _ _ _ h, getD_take _ _ _ _ h, getD_take _ _ _ _ (by omega), getD_take _ _ _ _ (by omega)]
/-- Event i alone would make a piece. -/
def Good (s : ByteArray) (first : Int) (ls : List (List UInt8)) (qs : List Inc) (i : Nat) : Prop := badB s (first + i) (ls.drop i) (qs.drop i) 0 = false
theorem size_same {qs : List Inc} {M : Nat} (h : Rises qs M) {i : Nat} (hi : i < M) : (qs.getD i default).size = sz qs := by
  rcases Nat.eq_zero_or_pos i with rfl | h0
  · rfl
  · exact (h i h0 hi).1
theorem good_of {s : ByteArray} {first : Int} {ls : List (List UInt8)} {qs : List Inc} {M k j : Nat} (hr : Rises qs M) (hj : k + j < M) (h : badB s (first + k) (ls.drop k) (qs.drop k) j = false) : Good s first ls qs (k + j) := by
  unfold Good
  unfold badB rowAt sz at *
  simp only [getD_drop, Nat.add_zero] at *
  have h1 := size_same hr hj
  have h2 := size_same hr (show k < M by omega)
  have hb := bytesTo_ge s (ls.drop k) (qs.drop k) j
  have e1 : bytesTo s (ls.drop k) (qs.drop k) (j + 1) = bytesTo s (ls.drop k) (qs.drop k) j + (12 + (ls.getD (k + j) []).length + 32 * (qs.getD (k + j) default).way.length) := by
    show _ + (12 + ((ls.drop k).getD j []).length + 32 * ((qs.drop k).getD j default).way.length) = _
    rw [getD_drop, getD_drop]
  have e2 : bytesTo s (ls.drop (k + j)) (qs.drop (k + j)) (0 + 1) = 54 + s.size + (12 + (ls.getD (k + j) []).length + 32 * (qs.getD (k + j) default).way.length) := by
    show 54 + s.size + (12 + ((ls.drop (k + j)).getD 0 []).length + 32 * ((qs.drop (k + j)).getD 0 default).way.length) = _
    rw [getD_drop, getD_drop, Nat.add_zero]
  rw [e1] at h
  rw [e2]
  rw [h2] at h
  rw [h1]
  simp only [Bool.or_eq_false_iff, decide_eq_false_iff_not, Bool.not_eq_false'] at h ⊢
  obtain ⟨⟨⟨⟨_, h3⟩, h4⟩, h5⟩, _⟩ := h
  exact ⟨⟨⟨⟨by omega, by omega⟩, by rw [h1] at h4; exact h4⟩, by omega⟩, by simp⟩

section
variable {width : Int} {s : ByteArray} {first : Int} {before : List UInt8} {ls : List (List UInt8)} {qs : List Inc}
theorem stepN_good {k j : Nat} (h : j < stepN width s first before ls qs k) : badB s (first + k) (ls.drop k) (qs.drop k) j = false := by
  unfold stepN reachL at h
  split at h
  · exact reachN_good h
  · omega
theorem cuts_good (hr : Rises qs ls.length) {k : Nat} {ps : List Pc} (h : Cuts width s first before ls qs k ps) : ∀ i, i < k → Good s first ls qs i := by
  induction h with
  | nil => intro i hi; omega
  | @snoc k ps h hk hn ih =>
    intro i hi
    rcases Nat.lt_or_ge i k with h1 | h1
    · exact ih i h1
    · obtain ⟨j, rfl⟩ : ∃ j, i = k + j := ⟨i - k, by omega⟩
      have hl := stepN_le width s first before ls qs k
      exact good_of hr (by omega) (stepN_good (width := width) (before := before) (by omega))
theorem begins_later (hb : beginsB s first before = true) (k : Nat) : beginsB s (first + k) (chainL width before (ls.take k)) = true := by
  rcases Nat.eq_zero_or_pos k with rfl | h0
  · rw [List.take_zero]
    show beginsB s (first + ((0 : Nat) : Int)) before = true
    rw [show first + ((0 : Nat) : Int) = first by omega]
    exact hb
  · unfold beginsB at hb ⊢
    rw [Bool.and_eq_true, Bool.and_eq_true, decide_eq_true_eq] at hb
    rw [hb.1, decide_eq_true (show 0 ≤ first + (k : Int) by omega), decide_eq_true (show 0 < first + (k : Int) by omega)]
    rfl
theorem step_pos (hb : beginsB s first before = true) {k : Nat} (hk : k < ls.length) (hg : Good s first ls qs k) : 0 < stepN width s first before ls qs k := by
  unfold stepN reachL
  rw [begins_later hb k, if_pos rfl]
  rcases Nat.eq_zero_or_pos (reachN s (first + k) (ls.drop k) (qs.drop k)) with h | h
  · have := reachN_bad (s := s) (first := first + k) (ls := ls.drop k) (qs := qs.drop k) (by rw [h, List.length_drop]; omega)
    rw [h] at this
    unfold Good at hg
    rw [hg] at this
    cases this
  · exact h
/-- A piece is taken. -/
theorem enc_piece {k : Nat} (hn : 0 < stepN width s first before ls qs k) : encCode s (first + k) (chainL width before (ls.take k)) ((ls.drop k).take (stepN width s first before ls qs k)) ((qs.drop k).take (stepN width s first before ls qs k)) = 0 := by
  have hl := stepN_le width s first before ls qs k
  have hlen : ((ls.drop k).take (stepN width s first before ls qs k)).length = stepN width s first before ls qs k := by rw [List.length_take, List.length_drop]; omega
  have hb : beginsB s (first + k) (chainL width before (ls.take k)) = true := by
    unfold stepN reachL at hn
    split at hn
    · assumption
    · omega
  unfold encCode
  rw [hlen]
  refine if_pos ⟨hn, ?_⟩
  unfold reachL
  rw [hb, if_pos rfl]
  unfold reachN
  rw [hlen]
  exact find_range _ _ _ (Nat.le_refl _) (fun j hj => by rw [badB_take _ _ _ _ _ _ hj]; exact stepN_good hj) (fun h => by omega)
/-- With the event behind it, it is not. -/
theorem enc_longer {k : Nat} (hn : 0 < stepN width s first before ls qs k) (hk : k + stepN width s first before ls qs k < ls.length) : encCode s (first + k) (chainL width before (ls.take k)) ((ls.drop k).take (stepN width s first before ls qs k + 1)) ((qs.drop k).take (stepN width s first before ls qs k + 1)) = 170 := by
  have hlen : ((ls.drop k).take (stepN width s first before ls qs k + 1)).length = stepN width s first before ls qs k + 1 := by rw [List.length_take, List.length_drop]; omega
  unfold encCode
  refine if_neg ?_
  rintro ⟨_, h⟩
  unfold reachL at h
  split at h
  · have h2 := reach_all h (stepN width s first before ls qs k) (by rw [hlen]; omega)
    rw [badB_take _ _ _ _ _ _ (by omega)] at h2
    have hst : stepN width s first before ls qs k = reachN s (first + k) (ls.drop k) (qs.drop k) := by
      unfold stepN reachL
      rw [if_pos (by assumption)]
    rw [hst] at h2
    rw [reachN_bad (by rw [← hst, List.length_drop]; omega)] at h2
    cases h2
  · rw [hlen] at h; omega
/-- Where piece i begins. -/
def offP (ps : List Pc) (i : Nat) : Nat := ((ps.take i).map (·.ls.length)).sum
theorem offP_all (ps : List Pc) : offP ps ps.length = (ps.map (·.ls.length)).sum := by unfold offP; rw [List.take_length]
theorem cuts_sum {k : Nat} {ps : List Pc} (h : Cuts width s first before ls qs k ps) : (ps.map (·.ls.length)).sum = k := by
  induction h with
  | nil => rfl
  | @snoc k ps h hk hn ih =>
    have hl := stepN_le width s first before ls qs k
    rw [List.map_append, List.sum_append, ih, List.map_singleton, List.sum_singleton]
    show k + ((ls.drop k).take _).length = _
    rw [List.length_take, List.length_drop]
    omega
theorem cuts_at {k : Nat} {ps : List Pc} (h : Cuts width s first before ls qs k ps) : ∀ i (hi : i < ps.length), ps[i] = pcAt width first before ls qs (offP ps i) (stepN width s first before ls qs (offP ps i)) ∧ 0 < stepN width s first before ls qs (offP ps i) ∧ offP ps i + stepN width s first before ls qs (offP ps i) = offP ps (i + 1) := by
  induction h with
  | nil => intro i hi; cases hi
  | @snoc k ps h hk hn ih =>
    have hs := cuts_sum h
    have hl := stepN_le width s first before ls qs k
    have hoff : ∀ i, i ≤ ps.length → offP (ps ++ [pcAt width first before ls qs k (stepN width s first before ls qs k)]) i = offP ps i := fun i hi => by
      unfold offP; rw [List.take_append_of_le_length hi]
    intro i hi
    rw [List.length_append, List.length_singleton] at hi
    rcases Nat.lt_or_ge i ps.length with h1 | h1
    · rw [List.getElem_append_left h1, hoff i (by omega), hoff (i + 1) (by omega)]
      exact ih i h1
    · obtain rfl : i = ps.length := by omega
      have hk' : offP ps ps.length = k := by rw [offP_all, hs]
      rw [List.getElem_append_right (Nat.le_refl _), hoff _ (Nat.le_refl _), hk']
      refine ⟨by simp, hn, ?_⟩
      have := offP_all (ps ++ [pcAt width first before ls qs k (stepN width s first before ls qs k)])
      rw [List.length_append, List.length_singleton] at this
      rw [this, List.map_append, List.sum_append, hs, List.map_singleton, List.sum_singleton]
      show _ = k + ((ls.drop k).take _).length
      rw [List.length_take, List.length_drop]
      omega
theorem chain_piece (k n : Nat) : chainL width (chainL width before (ls.take k)) ((ls.drop k).take n) = chainL width before (ls.take (k + n)) := by
  rw [← chainL_append, List.take_add]
/-- The chain behind the last piece is the chain behind the history. -/
theorem cuts_last {ps : List Pc} (h : Cuts width s first before ls qs ls.length ps) (hne : 0 < ps.length) : chainL width (ps[ps.length - 1]).before (ps[ps.length - 1]).ls = chainL width before ls := by
  obtain ⟨h1, h2, h3⟩ := cuts_at h (ps.length - 1) (by omega)
  rw [show ps.length - 1 + 1 = ps.length by omega, offP_all, cuts_sum h] at h3
  rw [h1]
  show chainL width (chainL width before (ls.take _)) ((ls.drop _).take _) = _
  rw [chain_piece, h3, List.take_length]
theorem rises_take {M : Nat} (h : Rises qs M) (a : Nat) (ha : a ≤ M) : Rises (qs.take a) a := fun i h1 h2 => by
  have := h i h1 (by omega)
  unfold sz
  rw [getD_take _ _ _ _ h2, getD_take _ _ _ _ (by omega), getD_take _ _ _ _ (by omega)]
  exact this
theorem rises_drop {M : Nat} (h : Rises qs M) (a : Nat) : Rises (qs.drop a) (M - a) := fun i h1 h2 => by
  have h3 := h (a + i) (by omega) (by omega)
  have h4 := size_same h (show a < M by omega)
  unfold sz
  rw [getD_drop, getD_drop, getD_drop, Nat.add_zero, h4, h3.1, show a + (i - 1) = a + i - 1 by omega]
  exact ⟨rfl, h3.2⟩
theorem good_take {a i : Nat} (hi : i < a) (h : Good s first ls qs i) : Good s first (ls.take a) (qs.take a) i := by
  unfold Good at h ⊢
  rw [List.drop_take, List.drop_take, badB_take _ _ _ _ _ _ (by omega)]
  exact h
theorem good_drop {a i : Nat} (h : Good s first ls qs (a + i)) : Good s (first + a) (ls.drop a) (qs.drop a) i := by
  unfold Good at h ⊢
  rw [List.drop_drop, List.drop_drop, show first + (a : Int) + (i : Int) = first + ((a + i : Nat) : Int) by omega]
  exact h
theorem cuts_zero {ps : List Pc} (h : Cuts width s first before ls qs 0 ps) : ps = [] := by
  have := h.rec (motive := fun k ps _ => ps.length ≤ k) (Nat.le_refl _) (fun {k ps} _ _ hn ih => by rw [List.length_append, List.length_singleton]; omega)
  exact List.eq_nil_of_length_eq_zero (by omega)
end
end Go.Proofs.YtcmponmgaikkfaaDoor
