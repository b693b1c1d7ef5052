/-
  Words for memory: a block known whole; a row of cells somewhere; what a call may have turned. No program.
-/
import Derived.WalkKit
import Derived.Lib.Hide
import Derived.Deep.Draws
import Derived.Deep.AppendLies
namespace Go.Proofs.YtcmponmgaikkfaaDoor
open Go.RowKit

/-! ### A block that is known whole -/
def Blk (w : World) (g : Nat) (t : TypeId) (cs : List Value) : Prop := w.heap[g]? = some (.cells cs.toArray t (0, 0))

section
variable {w w' : World} {g : Nat} {t : TypeId} {cs : List Value}
theorem Blk.lt (h : Blk w g t cs) : g < w.heap.size := by
  rcases Nat.lt_or_ge g w.heap.size with hlt | hge
  · exact hlt
  · unfold Blk at h; rw [Array.getElem?_eq_none hge] at h; cases h
theorem Blk.cell (h : Blk w g t cs) (i : Nat) : w.cell? ⟨g, i, none⟩ = cs[i]? := by
  have := cell_of_row w g i cs.toArray t (0, 0) h
  simpa using this
theorem Blk.frozen (h : Blk w g t cs) (i : Nat) : w.frozen? ⟨g, i, none⟩ = false := by
  unfold Blk at h
  simp [World.frozen?, h]
theorem Blk.new (w : World) (t : TypeId) (cs : List Value) : Blk (w.alloc (.cells cs.toArray t)) w.heap.size t cs := heap_alloc_new w _
theorem Blk.drew (h : Blk w g t cs) : Blk w.drew g t cs := h
theorem Blk.drewN (h : Blk w g t cs) (n : Nat) : Blk (w.drewN n) g t cs := h
theorem Blk.alloc (h : Blk w g t cs) (o : Obj) : Blk (w.alloc o) g t cs := (Below.heap_alloc w o g h.lt).trans h
theorem Blk.set_ (h : Blk w g t cs) (i : Nat) (u : Value) : Blk (w.setCell ⟨g, i, none⟩ u) g t (cs.set i u) := by
  unfold Blk at h ⊢
  simp [World.setCell, Array.getElem?_modify, h]
theorem Blk.far (h : Blk w g t cs) {p : Addr} (hp : g ≠ p.block) (u : Value) : Blk (w.setCell p u) g t cs := (Below.heap_setCell w p u g hp).trans h
theorem Blk.below {B : Nat} (h : Blk w g t cs) (hb : Below B w w') (hg : g < B) : Blk w' g t cs := (hb.block g hg).trans h
theorem Blk.grown {row : Option Nat} (h : Blk w g t cs) (hb : w.grownBy w' row) (hg : some g ≠ row) : Blk w' g t cs := (hb.block g h.lt hg).trans h
theorem Blk.ne_ {g' : Nat} {t' : TypeId} {cs' : List Value} (h : Blk w g t cs) (h' : Blk w g' t' cs') (hne : t ≠ t') : g ≠ g' := by
  rintro rfl
  unfold Blk at h h'
  rw [h] at h'
  injection h' with h'
  injection h' with _ ht
  exact hne ht
theorem own_ne {base : Nat} {e : TypeId} {size n : Nat} {v : Value} {xs : List Value} (h : w.ownsRow base e size v n xs) (hg : Blk w g t cs) (hne : e ≠ t) : v.ownBlock ≠ some g := by
  rcases h.2 with ⟨rfl, _⟩ | ⟨g', cap, cur, rfl, _, hh, _⟩
  · simp [Value.ownBlock]
  · intro he
    have : g' = g := by simpa [Value.ownBlock] using he
    subst this
    obtain ⟨cur⟩ := cur
    exact Blk.ne_ (t := e) (cs := cur) hh hg hne rfl
end

/-! ### What a call may have turned -/
section
variable {a b c : World} {row : Option Nat}
theorem grown_refl (a : World) (row : Option Nat) : a.grownBy a row := ⟨rfl, rfl, rfl, Nat.le_refl _, fun _ _ _ => rfl⟩
theorem grown_trans (h : a.grownBy b row) (k : b.grownBy c row) : a.grownBy c row :=
  ⟨k.os.trans h.os, k.tape.trans h.tape, k.output.trans h.output, Nat.le_trans h.size k.size, fun i hi hn => (k.block i (Nat.lt_of_lt_of_le hi h.size) hn).trans (h.block i hi hn)⟩
theorem grown_drew (h : a.grownBy b row) : a.grownBy b.drew row := ⟨h.os, h.tape, h.output, h.size, h.block⟩
theorem grown_drewN (h : a.grownBy b row) (n : Nat) : a.grownBy (b.drewN n) row := ⟨h.os, h.tape, h.output, h.size, h.block⟩
theorem grown_alloc (h : a.grownBy b row) (o : Obj) : a.grownBy (b.alloc o) row := grown_trans h (World.grownBy_alloc b o row)
theorem grown_setCell (h : a.grownBy b row) {p : Addr} (hp : row = some p.block ∨ a.heap.size ≤ p.block) (u : Value) : a.grownBy (b.setCell p u) row :=
  ⟨h.os, h.tape, h.output, by simpa [World.setCell] using h.size, fun k hk hn => by
    rw [Below.heap_setCell _ _ _ _ (fun e => by rcases hp with hp | hp; exact hn (by rw [hp, e]); omega)]
    exact h.block k hk hn⟩
theorem grown_of_below (h : Below a.heap.size a b) (row : Option Nat) : a.grownBy b row := ⟨h.os, h.tape, h.output, h.size, fun k hk _ => h.block k hk⟩
theorem below_of_grown (h : a.grownBy b row) {B : Nat} (hB : B ≤ a.heap.size) (hr : ∀ k, row = some k → B ≤ k) : Below B a b :=
  ⟨h.os, h.tape, h.output, h.size, fun k hk => h.block k (by omega) (fun e => by have := hr k e.symm; omega)⟩
theorem below_drewN {B : Nat} (h : Below B a b) (n : Nat) : Below B a (b.drewN n) := ⟨h.os, h.tape, h.output, h.size, h.block⟩
end

/-! ### A row of cells, somewhere -/
theorem add_none (b o n : Nat) : (⟨b, o, none⟩ : Addr).add n = ⟨b, o + n, none⟩ := by unfold Addr.add; split <;> simp_all
theorem block_add (a : Addr) (n : Nat) : (a.add n).block = a.block := by unfold Addr.add; split <;> rfl
theorem add_add (a : Addr) (i j : Nat) : (a.add i).add j = a.add (i + j) := by
  unfold Addr.add
  by_cases hi : i = 0 <;> by_cases hj : j = 0 <;> simp [hi, hj, Nat.add_assoc]

/-- The cells xs lie at A (nothing is asked of A where xs is empty). -/
def Rd (w : World) (A : Option Addr) (xs : List Value) : Prop := xs ≠ [] → ∃ b o, A = some ⟨b, o, none⟩ ∧ ∀ (j : Nat) u, xs[j]? = some u → w.cell? ⟨b, o + j, none⟩ = some u

section
variable {w w' : World} {A : Option Addr} {xs : List Value}
theorem Rd.nil (w : World) (A : Option Addr) : Rd w A [] := fun h => absurd rfl h
theorem Rd.keep (h : Rd w A xs) (hk : ∀ (b o : Nat) u, A = some ⟨b, o, none⟩ → ∀ j : Nat, xs[j]? = some u → w.cell? ⟨b, o + j, none⟩ = some u → w'.cell? ⟨b, o + j, none⟩ = some u) : Rd w' A xs := fun hne => by
  obtain ⟨b, o, rfl, hc⟩ := h hne
  exact ⟨b, o, rfl, fun j u hu => hk b o u rfl j hu (hc j u hu)⟩
theorem Rd.lt (h : Rd w A xs) (hne : xs ≠ []) : ∃ b o, A = some ⟨b, o, none⟩ ∧ b < w.heap.size := by
  obtain ⟨b, o, rfl, hc⟩ := h hne
  refine ⟨b, o, rfl, ?_⟩
  cases xs with
  | nil => exact absurd rfl hne
  | cons x xs => exact block_lt_of_cell (hc 0 x rfl)
theorem Rd.below {B : Nat} (h : Rd w A xs) (hb : Below B w w') (hB : w.heap.size ≤ B) : Rd w' A xs := h.keep fun b o u _ j _ hc => by
  rw [hb.cell (p := ⟨b, o + j, none⟩) (Nat.lt_of_lt_of_le (block_lt_of_cell hc) hB)]; exact hc
theorem Rd.grown {row : Option Nat} (h : Rd w A xs) (hb : w.grownBy w' row) (hr : xs ≠ [] → ∀ b o, A = some ⟨b, o, none⟩ → some b ≠ row) : Rd w' A xs := h.keep fun b o u hA j hj hc => by
  rw [World.cell?_of_block (w := w) (hb.block b (block_lt_of_cell hc) (hr (by intro e; subst e; simp at hj) b o hA))]; exact hc
theorem Rd.take (h : Rd w A xs) (n : Nat) : Rd w A (xs.take n) := fun hne => by
  obtain ⟨b, o, rfl, hc⟩ := h (by intro e; subst e; simp at hne)
  refine ⟨b, o, rfl, fun j u hu => hc j u ?_⟩
  rw [List.getElem?_take] at hu
  split at hu
  · exact hu
  · cases hu
theorem Rd.drop {b o : Nat} (h : Rd w (some ⟨b, o, none⟩) xs) (n : Nat) : Rd w (some ⟨b, o + n, none⟩) (xs.drop n) := fun hne => by
  obtain ⟨b', o', e, hc⟩ := h (by intro e; subst e; simp at hne)
  obtain ⟨rfl, rfl⟩ : b = b' ∧ o = o' := by injection e with e; injection e with e1 e2; exact ⟨e1, e2⟩
  refine ⟨b, o + n, rfl, fun j u hu => ?_⟩
  rw [List.getElem?_drop] at hu
  rw [Nat.add_assoc]
  exact hc _ u hu
theorem Rd.cut (h : Rd w A xs) (n : Nat) : Rd w (A.map (·.add n)) (xs.drop n) := fun hne => by
  obtain ⟨b, o, rfl, _⟩ := h (by intro e; subst e; simp at hne)
  have := h.drop n hne
  simpa [add_none] using this
theorem Rd.of_blk {g : Nat} {t : TypeId} {cs : List Value} (h : Blk w g t cs) (o n : Nat) : Rd w (some ⟨g, o, none⟩) ((cs.drop o).take n) := fun _ => by
  refine ⟨g, o, rfl, fun j u hu => ?_⟩
  rw [h.cell]
  rw [List.getElem?_take] at hu
  split at hu
  · rwa [List.getElem?_drop] at hu
  · cases hu
theorem Rd.of_own {base : Nat} {e : TypeId} {size n c : Nat} (h : w.ownsRow base e size (.slice A n c) n xs) : Rd w A xs := fun hne => by
  rcases h.2 with ⟨hv, hn⟩ | ⟨g, cap, cur, hv, _⟩
  · subst hn
    exact absurd (List.eq_nil_of_length_eq_zero (by simpa using h.1)) hne
  · injection hv with hA
    subst hA
    refine ⟨g, 0, rfl, fun j u hu => ?_⟩
    have := h.cells (g := g) rfl j u hu
    rwa [add_none] at this
end

def bv (b : UInt8) : Value := .int .u8 b.toNat
def bvs (l : List UInt8) : List Value := l.map bv
theorem bvs_length (l : List UInt8) : (bvs l).length = l.length := by simp [bvs]
theorem oneCell_bvs (l : List UInt8) : ∀ u ∈ bvs l, u.oneCell' = true := by
  intro u hu; obtain ⟨b, _, rfl⟩ := List.mem_map.1 hu; rfl
/-- A slice value that reads as bytes. -/
def SlB (w : World) (v : Value) (l : List UInt8) : Prop := ∃ A c, v = .slice A l.length c ∧ l.length ≤ c ∧ c ≤ maxLen ∧ Rd w A (bvs l)
theorem SlB.below {w w' : World} {B : Nat} {v : Value} {l : List UInt8} (h : SlB w v l) (hb : Below B w w') (hB : w.heap.size ≤ B) : SlB w' v l := by
  obtain ⟨A, c, rfl, h1, h2, h3⟩ := h
  exact ⟨A, c, rfl, h1, h2, h3.below hb hB⟩
/-- Values that read as bytes, one by one. -/
def Parts (w : World) (vs : List Value) (ls : List (List UInt8)) : Prop := vs.length = ls.length ∧ ∀ (i : Nat) v l, vs[i]? = some v → ls[i]? = some l → SlB w v l
theorem Parts.below {w w' : World} {B : Nat} {vs : List Value} {ls : List (List UInt8)} (h : Parts w vs ls) (hb : Below B w w') (hB : w.heap.size ≤ B) : Parts w' vs ls :=
  ⟨h.1, fun i v l h1 h2 => (h.2 i v l h1 h2).below hb hB⟩
theorem Rd.byte {w : World} {b o : Nat} {l : List UInt8} (h : Rd w (some ⟨b, o, none⟩) (bvs l)) (j : Nat) (hj : j < l.length) : w.cell? ⟨b, o + j, none⟩ = some (.int .u8 ((l.getD j 0).toNat : Int)) := by
  obtain ⟨b', o', e, hc⟩ := h (by intro e; have := congrArg List.length e; simp [bvs] at this; subst this; simp at hj)
  obtain ⟨rfl, rfl⟩ : b = b' ∧ o = o' := by injection e with e; injection e with e1 e2; exact ⟨e1, e2⟩
  refine hc j _ ?_
  simp [bvs, List.getElem?_map, List.getElem?_eq_getElem hj, bv]
end Go.Proofs.YtcmponmgaikkfaaDoor
