/-
  Words for proof.Pieces: the memory of a list of pieces, each piece in blocks of its own; how the history is cut.
-/
import Derived.Test.YtcmponmgaikkfaaDoorPcut
namespace Go.Proofs.YtcmponmgaikkfaaDoor
open Go.RowKit

theorem RdT.grown_ne {w w' : World} {t : TypeId} {A : Option Addr} {xs : List Value} {row : Option Nat} (h : RdT w t A xs) (hg : w.grownBy w' row) (hne : ∀ b o c f, A = some ⟨b, o, none⟩ → w.heap[b]? = some (.cells c t f) → some b ≠ row) : RdT w' t A xs := fun hx => by
  obtain ⟨b, o, cells, fr, rfl, hb, hc⟩ := h hx
  have hlt : b < w.heap.size := by
    rcases Nat.lt_or_ge b w.heap.size with h | h
    · exact h
    · rw [Array.getElem?_eq_none h] at hb; cases hb
  have hnr := hne b o _ _ rfl hb
  refine ⟨b, o, cells, fr, rfl, (hg.block b hlt hnr).trans hb, fun j u hu => ?_⟩
  rw [World.cell?_of_block (w := w) (hg.block b hlt hnr)]
  exact hc j u hu
/-- What turned is a block ahead of lo, or one that holds pieces. -/
def Aside (w : World) (lo : Nat) (row : Option Nat) : Prop := ∀ g, row = some g → g < lo ∨ ∃ c f, w.heap[g]? = some (.cells c 37 f)
theorem aside_none (w : World) (lo : Nat) : Aside w lo none := fun _ e => by cases e
theorem Aside.mono {w : World} {lo lo' : Nat} {row : Option Nat} (h : Aside w lo row) (hl : lo ≤ lo') : Aside w lo' row := fun g e => (h g e).imp (fun h => Nat.lt_of_lt_of_le h hl) id
theorem Aside.ne {w : World} {lo : Nat} {row : Option Nat} (h : Aside w lo row) {b : Nat} (hb : lo ≤ b) {c : Array Value} {t : TypeId} {f : Nat × Nat} (hh : w.heap[b]? = some (.cells c t f)) (ht : t ≠ 37) : some b ≠ row := fun e => by
  rcases h b e.symm with h | ⟨c', f', h'⟩
  · omega
  · rw [hh] at h'
    injection h' with h'
    injection h' with _ ht'
    exact ht ht'
theorem Aside.own {w : World} {lo : Nat} {row : Option Nat} (h : Aside w lo row) {e : TypeId} {size n : Nat} {v : Value} {xs : List Value} (ho : w.ownsRow lo e size v n xs) (ht : e ≠ 37) : v.ownBlock = none ∨ v.ownBlock ≠ row := by
  cases hv : v.ownBlock with
  | none => exact .inl rfl
  | some g =>
    obtain ⟨c, f, hh⟩ := own_typed ho g hv
    exact .inr (h.ne (ho.lt g hv).1 hh ht)
theorem own_mono {w : World} {base base' : Nat} {e : TypeId} {size n : Nat} {v : Value} {xs : List Value} (h : w.ownsRow base e size v n xs) (hb : base' ≤ base) : w.ownsRow base' e size v n xs :=
  ⟨h.1, h.2.imp id fun ⟨g, cap, cur, h1, h2, h3⟩ => ⟨g, cap, cur, h1, Nat.le_trans hb h2, h3⟩⟩
theorem PcMem.mono {w : World} {lo lo' : Nat} {ev pr : Value} {ls : List (List UInt8)} {qs : List Inc} (h : PcMem w lo ev pr ls qs) (hl : lo' ≤ lo) : PcMem w lo' ev pr ls qs := by
  obtain ⟨vs, css, h1, h2, h3, h4⟩ := h
  refine ⟨vs, css, own_mono h1 hl, own_mono h2 hl, ⟨h3.1, fun i v l hv hl' => ?_⟩, ⟨h4.1, fun i cs q hc hq => ?_⟩⟩
  · obtain ⟨A, c, e, a1, a2, a3, a4⟩ := h3.2 i v l hv hl'
    exact ⟨A, c, e, a1, a2, a3, fun b o e => Nat.le_trans hl (a4 b o e)⟩
  · obtain ⟨A, c, e, a1, a2, a3, a4, a5⟩ := h4.2 i cs q hc hq
    exact ⟨A, c, e, a1, a2, a3, a4, fun b o e => Nat.le_trans hl (a5 b o e)⟩
theorem PcMem.grown {w w' : World} {lo : Nat} {ev pr : Value} {ls : List (List UInt8)} {qs : List Inc} {row : Option Nat} (h : PcMem w lo ev pr ls qs) (hg : w.grownBy w' row) (ha : Aside w lo row) : PcMem w' lo ev pr ls qs := by
  obtain ⟨vs, css, h1, h2, h3, h4⟩ := h
  refine ⟨vs, css, h1.kept hg (ha.own h1 (by decide)), h2.kept hg (ha.own h2 (by decide)), ⟨h3.1, fun i v l hv hl' => ?_⟩, ⟨h4.1, fun i cs q hc hq => ?_⟩⟩
  · obtain ⟨A, c, e, a1, a2, a3, a4⟩ := h3.2 i v l hv hl'
    exact ⟨A, c, e, a1, a2, a3.grown_ne hg (fun b o _ _ e hb => ha.ne (a4 b o e) hb (by decide)), a4⟩
  · obtain ⟨A, c, e, a1, a2, a3, a4, a5⟩ := h4.2 i cs q hc hq
    exact ⟨A, c, e, a1, a2, a3, a4.grown_ne hg (fun b o _ _ e hb => ha.ne (a5 b o e) hb (by decide)), a5⟩

/-- A piece: where it begins, the chain ahead of it, its events and proofs. -/
structure Pc where
  first : Int
  before : List UInt8
  ls : List (List UInt8)
  qs : List Inc
/-- The pieces' lists, each piece's in blocks of its own, all ahead of B. -/
def PcsMem (w : World) (B : Nat) : Nat → List (Value × Value) → List Pc → Prop
  | lo, [], [] => lo ≤ B
  | lo, v :: vs, p :: ps => ∃ hi, lo ≤ hi ∧ PcMem w lo v.1 v.2 p.ls p.qs ∧ (∀ g, v.1.ownBlock = some g → g < hi) ∧ (∀ g, v.2.ownBlock = some g → g < hi) ∧ PcsMem w B hi vs ps
  | _, _, _ => False
theorem PcsMem.length {w : World} {B : Nat} : ∀ {lo : Nat} {vs : List (Value × Value)} {ps : List Pc}, PcsMem w B lo vs ps → vs.length = ps.length
  | _, [], [], _ => rfl
  | _, _ :: _, _ :: _, ⟨_, _, _, _, _, h⟩ => congrArg (· + 1) h.length
theorem PcsMem.le {w : World} {B : Nat} : ∀ {lo : Nat} {vs : List (Value × Value)} {ps : List Pc}, PcsMem w B lo vs ps → lo ≤ B
  | _, [], [], h => h
  | _, _ :: _, _ :: _, ⟨_, hl, _, _, _, h⟩ => Nat.le_trans hl h.le
theorem PcsMem.monoB {w : World} {B B' : Nat} (hB : B ≤ B') : ∀ {lo : Nat} {vs : List (Value × Value)} {ps : List Pc}, PcsMem w B lo vs ps → PcsMem w B' lo vs ps
  | _, [], [], h => Nat.le_trans h hB
  | _, _ :: _, _ :: _, ⟨hi, hl, a, b, c, h⟩ => ⟨hi, hl, a, b, c, h.monoB hB⟩
theorem PcsMem.mono {w : World} {B lo lo' : Nat} (hl : lo' ≤ lo) : ∀ {vs : List (Value × Value)} {ps : List Pc}, PcsMem w B lo vs ps → PcsMem w B lo' vs ps
  | [], [], h => Nat.le_trans hl h
  | _ :: _, _ :: _, ⟨hi, hl', a, b, c, h⟩ => ⟨hi, Nat.le_trans hl hl', a.mono hl, b, c, h⟩
theorem PcsMem.grown {w w' : World} {B : Nat} {row : Option Nat} (hg : w.grownBy w' row) : ∀ {lo : Nat} {vs : List (Value × Value)} {ps : List Pc}, PcsMem w B lo vs ps → Aside w lo row → PcsMem w' B lo vs ps
  | _, [], [], h, _ => h
  | _, _ :: _, _ :: _, ⟨hi, hl, a, b, c, h⟩, ha => ⟨hi, hl, a.grown hg ha, b, c, h.grown hg (ha.mono hl)⟩
theorem PcsMem.snoc {w : World} {B B' : Nat} {v : Value × Value} {p : Pc} (hp : PcMem w B v.1 v.2 p.ls p.qs) (h1 : ∀ g, v.1.ownBlock = some g → g < B') (h2 : ∀ g, v.2.ownBlock = some g → g < B') (hB : B ≤ B') :
    ∀ {lo : Nat} {vs : List (Value × Value)} {ps : List Pc}, PcsMem w B lo vs ps → PcsMem w B' lo (vs ++ [v]) (ps ++ [p])
  | _, [], [], h => ⟨B', Nat.le_trans h hB, hp.mono h, h1, h2, Nat.le_refl _⟩
  | _, _ :: _, _ :: _, ⟨hi, hl, a, b, c, h⟩ => ⟨hi, hl, a, b, c, h.snoc hp h1 h2 hB⟩
theorem PcMem.own_lt {w : World} {lo : Nat} {ev pr : Value} {ls : List (List UInt8)} {qs : List Inc} (h : PcMem w lo ev pr ls qs) : (∀ g, ev.ownBlock = some g → g < w.heap.size) ∧ (∀ g, pr.ownBlock = some g → g < w.heap.size) := by
  obtain ⟨vs, css, h1, h2, _⟩ := h
  exact ⟨fun g e => (h1.lt g e).2, fun g e => (h2.lt g e).2⟩

/-- The cells of the pieces, one behind the other. -/
def psCells (s : ByteArray) : List (Value × Value) → List Pc → List (List Value)
  | v :: vs, p :: ps => pieceCells s p.first p.before v.1 v.2 :: psCells s vs ps
  | _, _ => []
theorem psCells_snoc (s : ByteArray) (v : Value × Value) (p : Pc) : ∀ (vs : List (Value × Value)) (ps : List Pc), vs.length = ps.length → psCells s (vs ++ [v]) (ps ++ [p]) = psCells s vs ps ++ [pieceCells s p.first p.before v.1 v.2]
  | [], [], _ => rfl
  | _ :: vs, _ :: ps, h => congrArg _ (psCells_snoc s v p vs ps (Nat.succ.inj h))
/-- A list of pieces. -/
def PsMem (w : World) (base B lo : Nat) (lv : Value) (s : ByteArray) (ps : List Pc) : Prop := ∃ vs, w.ownsRow base 37 36 lv ps.length (psCells s vs ps).flatten ∧ PcsMem w B lo vs ps ∧ ∀ p ∈ ps, p.before.length = 32

/-! ### How the history is cut -/
def chainL (width : Int) (before : List UInt8) (ls : List (List UInt8)) : List UInt8 := ls.foldl (fun c l => ofL width 2 [c, ofL width 0 [l]]) before
theorem chainL_length (width : Int) (before : List UInt8) (hb : before.length = 32) (ls : List (List UInt8)) : (chainL width before ls).length = 32 := by
  induction ls generalizing before with
  | nil => exact hb
  | cons l ls ih => exact ih _ (ofL_length _ _ _)
theorem chainL_append (width : Int) (before : List UInt8) (a b : List (List UInt8)) : chainL width before (a ++ b) = chainL width (chainL width before a) b := by simp [chainL]
theorem chainL_snoc (width : Int) (before : List UInt8) (a : List (List UInt8)) (l : List UInt8) : chainL width before (a ++ [l]) = ofL width 2 [chainL width before a, ofL width 0 [l]] := by simp [chainL]
theorem chainL_succ (width : Int) (before : List UInt8) (ls : List (List UInt8)) (k : Nat) (hk : k < ls.length) : chainL width before (ls.take (k + 1)) = ofL width 2 [chainL width before (ls.take k), ofL width 0 [ls[k]]] := by
  rw [List.take_add_one, List.getElem?_eq_getElem hk, ← chainL_snoc]; rfl

/-- How many events the piece from the k-th event on takes. -/
def stepN (width : Int) (s : ByteArray) (first : Int) (before : List UInt8) (ls : List (List UInt8)) (qs : List Inc) (k : Nat) : Nat := reachL s (first + k) (chainL width before (ls.take k)) (ls.drop k) (qs.drop k)
def pcAt (width : Int) (first : Int) (before : List UInt8) (ls : List (List UInt8)) (qs : List Inc) (k n : Nat) : Pc := ⟨first + k, chainL width before (ls.take k), (ls.drop k).take n, (qs.drop k).take n⟩
/-- The first k events are cut into the pieces ps. -/
inductive Cuts (width : Int) (s : ByteArray) (first : Int) (before : List UInt8) (ls : List (List UInt8)) (qs : List Inc) : Nat → List Pc → Prop
  | nil : Cuts width s first before ls qs 0 []
  | snoc {k : Nat} {ps : List Pc} (h : Cuts width s first before ls qs k ps) (hk : k < ls.length) (hn : 0 < stepN width s first before ls qs k) : Cuts width s first before ls qs (k + stepN width s first before ls qs k) (ps ++ [pcAt width first before ls qs k (stepN width s first before ls qs k)])
/-- The proofs' sizes are one, their numbers rise (as far as the n-th). -/
def Rises (qs : List Inc) (n : Nat) : Prop := ∀ i, 1 ≤ i → i < n → (qs.getD i default).size = sz qs ∧ (qs.getD (i - 1) default).number < (qs.getD i default).number
theorem reachN_le (s : ByteArray) (first : Int) (ls : List (List UInt8)) (qs : List Inc) : reachN s first ls qs ≤ ls.length := by
  unfold reachN
  cases h : (List.range ls.length).find? (badB s first ls qs) with
  | none => exact Nat.le_refl _
  | some k => have := List.mem_of_find?_eq_some h; simp at this; exact Nat.le_of_lt this
theorem reachL_le (s : ByteArray) (first : Int) (before : List UInt8) (ls : List (List UInt8)) (qs : List Inc) : reachL s first before ls qs ≤ ls.length := by
  unfold reachL
  split
  · exact reachN_le _ _ _ _
  · exact Nat.zero_le _
theorem stepN_le (width : Int) (s : ByteArray) (first : Int) (before : List UInt8) (ls : List (List UInt8)) (qs : List Inc) (k : Nat) : stepN width s first before ls qs k ≤ ls.length - k := by
  have := reachL_le s (first + k) (chainL width before (ls.take k)) (ls.drop k) (qs.drop k)
  rwa [List.length_drop] at this
theorem reachN_good {s : ByteArray} {first : Int} {ls : List (List UInt8)} {qs : List Inc} {j : Nat} (h : j < reachN s first ls qs) : badB s first ls qs j = false := by
  unfold reachN at h
  cases hf : (List.range ls.length).find? (badB s first ls qs) with
  | none =>
    rw [hf] at h
    have := List.find?_eq_none.1 hf j (List.mem_range.2 h)
    simpa using this
  | some k =>
    rw [hf] at h
    have := (List.find?_range_eq_some.1 hf).2.2 j h
    simpa using this
theorem reachN_bad {s : ByteArray} {first : Int} {ls : List (List UInt8)} {qs : List Inc} (h : reachN s first ls qs < ls.length) : badB s first ls qs (reachN s first ls qs) = true := by
  unfold reachN at h ⊢
  cases hf : (List.range ls.length).find? (badB s first ls qs) with
  | none => rw [hf] at h; simp at h
  | some k => exact (List.find?_range_eq_some.1 hf).1
end Go.Proofs.YtcmponmgaikkfaaDoor
