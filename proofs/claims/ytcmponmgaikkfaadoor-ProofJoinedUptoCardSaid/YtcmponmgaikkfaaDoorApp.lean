/-
  Append onto a row of the call's own, whatever stands behind it; the writer's header and its row. Over any program but for the header's type.
-/
import Derived.Test.YtcmponmgaikkfaaDoorProg
import Derived.Test.YtcmponmgaikkfaaDoorLaws
import Derived.Test.YtcmponmgaikkfaaDoorPlan
namespace Go.Proofs.YtcmponmgaikkfaaDoor
open Go.RowKit

/-- The cells xs lie at A, in a block of cells of type t. -/
def RdT (w : World) (t : TypeId) (A : Option Addr) (xs : List Value) : Prop :=
  xs ≠ [] → ∃ b o cells fr, A = some ⟨b, o, none⟩ ∧ w.heap[b]? = some (.cells cells t fr) ∧ ∀ (j : Nat) u, xs[j]? = some u → w.cell? ⟨b, o + j, none⟩ = some u
theorem RdT.rd {w : World} {t : TypeId} {A : Option Addr} {xs : List Value} (h : RdT w t A xs) : Rd w A xs := fun hne => by
  obtain ⟨b, o, _, _, rfl, _, hc⟩ := h hne
  exact ⟨b, o, rfl, hc⟩
theorem RdT.nil (w : World) (t : TypeId) (A : Option Addr) : RdT w t A [] := fun h => absurd rfl h
/-- A block of another type has turned, and what is new. -/
theorem RdT.grown {w w' : World} {t t' : TypeId} {A : Option Addr} {xs : List Value} {row : Option Nat} (h : RdT w t A xs) (hg : w.grownBy w' row) (hrow : ∀ g, row = some g → ∃ c f, w.heap[g]? = some (.cells c t' f)) (hne : t ≠ t') : RdT w' t A xs := fun hx => by
  obtain ⟨b, o, cells, fr, rfl, hb, hc⟩ := h hx
  have hlt : b < w.heap.size := by
    rcases Nat.lt_or_ge b w.heap.size with h | h
    · exact h
    · rw [Array.getElem?_eq_none h] at hb; cases hb
  have hnr : some b ≠ row := fun e => by
    obtain ⟨c, f, hg'⟩ := hrow b e.symm
    rw [hb] at hg'
    injection hg' with hg'
    injection hg' with _ ht
    exact hne ht
  refine ⟨b, o, cells, fr, rfl, (hg.block b hlt hnr).trans hb, fun j u hu => ?_⟩
  rw [World.cell?_of_block (w := w) (hg.block b hlt hnr)]
  exact hc j u hu
theorem RdT.grown_none {w w' : World} {t : TypeId} {A : Option Addr} {xs : List Value} (h : RdT w t A xs) (hg : w.grownBy w' none) : RdT w' t A xs := h.grown (t' := t + 1) hg (by simp) (by simp)

section
variable {P : Program}
theorem run_append_none (w : World) (t ty e : TypeId) (i : TypeInfo) (ht : P.underlying t = some (.slice e)) (hi : P.info? e = some i) (base A : Option Addr) (sLen sCap c : Nat) (hle : sLen ≤ sCap) :
    (Builtin.append_ #[t, t] ty #[.slice base sLen sCap, .slice A 0 c]).run P w = .ok (.slice base sLen sCap) w := by
  cases base <;> cases A <;> simp [Builtin.append_, run_underlying ht, sizeOf, typeInfo, hi, hle, storeCells, Builtin.lenOf, Builtin.firstCells, loadCells, loadCellsFrom]

theorem run_append_rd (w : World) (base : Nat) (t ty e : TypeId) (i : TypeInfo) (z : Value) (size bytes : Nat) (ht : P.underlying t = some (.slice e)) (hi : P.info? e = some i) (hz : i.zero = some z)
    (hsize : i.size = size) (hby : i.bytes = bytes) (hzs : z.cells.size = size) (hsz : 0 < size)
    (v : Value) (n : Nat) (xs : List Value) (hown : w.ownsRow base e size v n xs)
    (A : Option Addr) (m c : Nat) (news : List Value) (hl : news.length = m * size) (hrd : Rd w A news) (h1 : ∀ u ∈ news, u.oneCell' = true)
    (h63 : n + m ≤ maxLen) (hbytes : (n + m) * bytes ≤ 140737488355328) (hbase : base ≤ w.heap.size) :
    ∃ v' w', (Builtin.append_ #[t, t] ty #[v, .slice A m c]).run P w = .ok v' w' ∧ w'.ownsRow base e size v' (n + m) (xs ++ news) ∧ w.grownBy w' v.ownBlock ∧ (v'.ownBlock = v.ownBlock ∨ v'.ownBlock = some w.heap.size) := by
  by_cases h0 : news = []
  · subst h0
    have hm : m = 0 := by
      rcases Nat.eq_zero_or_pos m with h | h
      · exact h
      · have := Nat.mul_pos h hsz; simp at hl; omega
    subst hm
    have hv : ∃ base' cap', v = .slice base' n cap' ∧ n ≤ cap' := by
      rcases hown.2 with ⟨rfl, rfl⟩ | ⟨g, cap, cur, rfl, _, _, h, _⟩
      · exact ⟨_, _, rfl, Nat.le_refl _⟩
      · exact ⟨_, _, rfl, h⟩
    obtain ⟨b', c', rfl, hle⟩ := hv
    refine ⟨_, w, run_append_none w t ty e i ht hi b' A n c' c hle, by simpa using hown, grown_refl _ _, .inl rfl⟩
  · obtain ⟨b, o, rfl, hc⟩ := hrd h0
    obtain ⟨v', w', hr, h2, h3, _, h5⟩ := run_append_own_at (P := P) w base t ty e i z size bytes ht hi hz hsize hby hzs hsz v n xs hown ⟨b, o, none⟩ m c news hl (fun j u hu => by rw [add_none]; exact hc j u hu) h1 h63 hbytes hbase
    exact ⟨v', w', hr, h2, h3, h5⟩

variable {ops : Array Oper} {rest : List Oper} {a : Act} {w : World} {Q : Exit → Act → World → Prop} {dst : Option Tmp} {ty : TypeId} {pos : String} {after : Array Edge} {K : Act → World → Prop}

theorem op_append (s x : Operand) (t : TypeId) (base : Nat) (e : TypeId) (i : TypeInfo) (z : Value) (size bytes : Nat) (ht : P.underlying t = some (.slice e)) (hi : P.info? e = some i) (hz : i.zero = some z)
    (hsize : i.size = size) (hby : i.bytes = bytes) (hzs : z.cells.size = size) (hsz : 0 < size)
    (v : Value) (n : Nat) (xs : List Value) (hs : a.eval s = v) (hown : w.ownsRow base e size v n xs)
    (A : Option Addr) (m c : Nat) (news : List Value) (hx : a.eval x = .slice A m c) (hl : news.length = m * size) (hrd : Rd w A news) (h1 : ∀ u ∈ news, u.oneCell' = true)
    (h63 : n + m ≤ maxLen) (hbytes : (n + m) * bytes ≤ 140737488355328) (hbase : base ≤ w.heap.size)
    (h : ∀ v' w', w'.ownsRow base e size v' (n + m) (xs ++ news) → w.grownBy w' v.ownBlock → (v'.ownBlock = v.ownBlock ∨ v'.ownBlock = some w.heap.size) → K (a.put dst v') w') :
    Oper.wp P { dst, op := .call { callee := .builtin .append, args := #[s, x], argTypes := #[t, t] }, type := ty, pos, after, guard := none } a w K Q := by
  obtain ⟨v', w', hr, h2, h3, h4⟩ := run_append_rd (P := P) w base t ty e i z size bytes ht hi hz hsize hby hzs hsz v n xs hown A m c news hl hrd h1 h63 hbytes hbase
  unfold Oper.wp execOp
  simp only [resolve, invoke, builtin, Sem.run_bind, Sem.run_pure, Result.andThen_ok, List.map_toArray, List.map_cons, List.map_nil, hs, hx, hr]
  exact h v' w' h2 h3 h4
theorem law_append (s x : Operand) (t : TypeId) (base : Nat) (e : TypeId) (i : TypeInfo) (z : Value) (size bytes : Nat) (ht : P.underlying t = some (.slice e)) (hi : P.info? e = some i) (hz : i.zero = some z)
    (hsize : i.size = size) (hby : i.bytes = bytes) (hzs : z.cells.size = size) (hsz : 0 < size)
    (v : Value) (n : Nat) (xs : List Value) (hs : a.eval s = v) (hown : w.ownsRow base e size v n xs)
    (A : Option Addr) (m c : Nat) (news : List Value) (hx : a.eval x = .slice A m c) (hl : news.length = m * size) (hrd : Rd w A news) (h1 : ∀ u ∈ news, u.oneCell' = true)
    (h63 : n + m ≤ maxLen) (hbytes : (n + m) * bytes ≤ 140737488355328) (hbase : base ≤ w.heap.size)
    (h : ∀ v' w', w'.ownsRow base e size v' (n + m) (xs ++ news) → w.grownBy w' v.ownBlock → (v'.ownBlock = v.ownBlock ∨ v'.ownBlock = some w.heap.size) → wpList P ops Q rest (a.put dst v') w') :
    wpList P ops Q ({ dst, op := .call { callee := .builtin .append, args := #[s, x], argTypes := #[t, t] }, type := ty, pos, after, guard := none } :: rest) a w :=
  wpList_plain rfl fun _ hK => op_append s x t base e i z size bytes ht hi hz hsize hby hzs hsz v n xs hs hown A m c news hx hl hrd h1 h63 hbytes hbase fun v' w' h2 h3 h4 => hK _ _ (h v' w' h2 h3 h4)
theorem run_append_nil_rd (w : World) (t ty e : TypeId) (i : TypeInfo) (z : Value) (size bytes : Nat) (ht : P.underlying t = some (.slice e)) (hi : P.info? e = some i) (hz : i.zero = some z)
    (hsize : i.size = size) (hby : i.bytes = bytes) (hsz : 0 < size) (A : Option Addr) (m c : Nat) (news : List Value) (hl : news.length = m * size) (hrd : Rd w A news) (h63 : m ≤ maxLen) (hbytes : m * bytes ≤ 140737488355328) :
    ∃ A' c' w', (Builtin.append_ #[t, t] ty #[.slice none 0 0, .slice A m c]).run P w = .ok (.slice A' m c') w' ∧ w.grownBy w' none ∧ RdT w' e A' news ∧ m ≤ c' ∧ c' ≤ maxLen ∧ (∀ b o, A' = some ⟨b, o, none⟩ → w.heap.size ≤ b) := by
  subst hsize
  subst hby
  by_cases h0 : news = []
  · subst h0
    have hm : m = 0 := by
      rcases Nat.eq_zero_or_pos m with h | h
      · exact h
      · have := Nat.mul_pos h hsz; simp at hl; omega
    subst hm
    exact ⟨_, _, w, run_append_none w t ty e i ht hi none A 0 0 c (Nat.le_refl _), grown_refl _ _, RdT.nil _ _ _, Nat.le_refl _, by simp [maxLen], by simp⟩
  · obtain ⟨b, o, rfl, hc⟩ := hrd h0
    have hm : m ≠ 0 := by rintro rfl; rw [Nat.zero_mul] at hl; exact h0 (List.eq_nil_of_length_eq_zero hl)
    have hr := run_append_nil (P := P) w t ty e i z ht hi hz ⟨b, o, none⟩ m c news hl (fun j u hu => by rw [add_none]; exact hc j u hu) (by omega) (by simp only [maxLen] at h63; omega) (by omega)
    refine ⟨_, _, _, hr, grown_alloc (grown_drew (grown_refl _ _)) _, ?_, grownCap_ge w m 0 e, grownCap_le_maxLen w m 0 e h63, by intro b o e; injection e with e; injection e with e1; omega⟩
    have hB := Blk.new w.drew e (news ++ (Builtin.zeroCells z.cells (grownCap w m 0 e - m)).toList)
    have he : (news ++ (Builtin.zeroCells z.cells (grownCap w m 0 e - m)).toList).toArray = news.toArray ++ Builtin.zeroCells z.cells (grownCap w m 0 e - m) := by apply Array.ext'; simp
    have := Rd.of_blk hB 0 news.length
    rw [he] at this
    rw [List.drop_zero, List.take_left'] at this
    · intro hne
      obtain ⟨b', o', e', hc'⟩ := this hne
      injection e' with e'
      injection e' with e1 e2
      subst e1 e2
      exact ⟨_, _, _, _, rfl, heap_alloc_new w.drew _, hc'⟩
    · rfl
theorem op_append_nil (x : Operand) (t e : TypeId) (i : TypeInfo) (z : Value) (size bytes : Nat) (ht : P.underlying t = some (.slice e)) (hi : P.info? e = some i) (hz : i.zero = some z)
    (hsize : i.size = size) (hby : i.bytes = bytes) (hsz : 0 < size) (A : Option Addr) (m c : Nat) (news : List Value) (hx : a.eval x = .slice A m c) (hl : news.length = m * size) (hrd : Rd w A news) (h63 : m ≤ maxLen) (hbytes : m * bytes ≤ 140737488355328)
    (h : ∀ A' c' w', w.grownBy w' none → RdT w' e A' news → m ≤ c' → c' ≤ maxLen → (∀ b o, A' = some ⟨b, o, none⟩ → w.heap.size ≤ b) → K (a.put dst (.slice A' m c')) w') :
    Oper.wp P { dst, op := .call { callee := .builtin .append, args := #[.const (.slice none 0 0), x], argTypes := #[t, t] }, type := ty, pos, after, guard := none } a w K Q := by
  obtain ⟨A', c', w', hr, h1, h2, h3, h4, h5⟩ := run_append_nil_rd (P := P) w t ty e i z size bytes ht hi hz hsize hby hsz A m c news hl hrd h63 hbytes
  have he : a.eval (.const (.slice none 0 0)) = .slice none 0 0 := rfl
  unfold Oper.wp execOp
  simp only [resolve, invoke, builtin, Sem.run_bind, Sem.run_pure, Result.andThen_ok, List.map_toArray, List.map_cons, List.map_nil, he, hx, hr]
  exact h _ _ _ h1 h2 h3 h4 h5
theorem law_append_nil (x : Operand) (t e : TypeId) (i : TypeInfo) (z : Value) (size bytes : Nat) (ht : P.underlying t = some (.slice e)) (hi : P.info? e = some i) (hz : i.zero = some z)
    (hsize : i.size = size) (hby : i.bytes = bytes) (hsz : 0 < size) (A : Option Addr) (m c : Nat) (news : List Value) (hx : a.eval x = .slice A m c) (hl : news.length = m * size) (hrd : Rd w A news) (h63 : m ≤ maxLen) (hbytes : m * bytes ≤ 140737488355328)
    (h : ∀ A' c' w', w.grownBy w' none → RdT w' e A' news → m ≤ c' → c' ≤ maxLen → (∀ b o, A' = some ⟨b, o, none⟩ → w.heap.size ≤ b) → wpList P ops Q rest (a.put dst (.slice A' m c')) w') :
    wpList P ops Q ({ dst, op := .call { callee := .builtin .append, args := #[.const (.slice none 0 0), x], argTypes := #[t, t] }, type := ty, pos, after, guard := none } :: rest) a w :=
  wpList_plain rfl fun _ hK => op_append_nil x t e i z size bytes ht hi hz hsize hby hsz A m c news hx hl hrd h63 hbytes fun A' c' w' h1 h2 h3 h4 h5 => hK _ _ (h A' c' w' h1 h2 h3 h4 h5)
end

/-! ### The writer -/
theorem info_b8 : (Tryd.prog.info? 5).map (fun i => (i.zero, i.size, i.bytes)) = some (some (.int .u8 0), 1, 1) := by kernel_rfl
theorem size_bytes : (Tryd.prog.info? 27).map (·.size) = some 1 := by kernel_rfl
/-- A writer's header and its row v, n bytes long; both made since the heap had 'base' blocks. -/
def Wr (w : World) (p base : Nat) (v : Value) (n : Nat) : Prop := base ≤ p ∧ Blk w p 66 [v] ∧ ∃ xs, w.ownsRow base 5 1 v n xs
theorem own_oneCell {w : World} {base n size : Nat} {e : TypeId} {v : Value} {xs : List Value} (h : w.ownsRow base e size v n xs) : v.oneCell' = true ∧ v.cells = #[v] := by
  rcases h.2 with ⟨rfl, _⟩ | ⟨g, cap, cur, rfl, _⟩ <;> exact ⟨rfl, rfl⟩
/-- What a writer's call may turn: its header p, its row v, what is new. -/
structure Step (w : World) (p : Nat) (v : Value) (w' : World) (v' : Value) : Prop where
  os : w'.os = w.os
  tape : w'.tape = w.tape
  output : w'.output = w.output
  size : w.heap.size ≤ w'.heap.size
  row : v'.ownBlock = v.ownBlock ∨ ∃ g, v'.ownBlock = some g ∧ w.heap.size ≤ g
  block : ∀ b, b < w.heap.size → b ≠ p → v.ownBlock ≠ some b → w'.heap[b]? = w.heap[b]?
section
variable {w w1 w2 w3 : World} {p base n m : Nat} {v v' v1 v2 : Value}
theorem Step.refl (w : World) (p : Nat) (v : Value) : Step w p v w v := ⟨rfl, rfl, rfl, Nat.le_refl _, .inl rfl, fun _ _ _ _ => rfl⟩
theorem Step.trans (h : Step w p v w1 v1) (k : Step w1 p v1 w2 v2) : Step w p v w2 v2 :=
  ⟨k.os.trans h.os, k.tape.trans h.tape, k.output.trans h.output, Nat.le_trans h.size k.size,
    k.row.elim (fun e => h.row.elim (fun e' => .inl (e.trans e')) (fun ⟨g, e', hg⟩ => .inr ⟨g, e.trans e', hg⟩)) (fun ⟨g, e, hg⟩ => .inr ⟨g, e, Nat.le_trans h.size hg⟩),
    fun b hb hp hv => (k.block b (Nat.lt_of_lt_of_le hb h.size) hp (fun e => by
      rcases h.row with e' | ⟨g, e', hg⟩
      · exact hv (e'.symm.trans e)
      · rw [e'] at e; injection e with e; omega)).trans (h.block b hb hp hv)⟩
theorem Step.alloc (h : Step w p v w1 v1) (o : Obj) : Step w p v (w1.alloc o) v1 :=
  ⟨h.os, h.tape, h.output, by have := h.size; simp; omega, h.row, fun b hb hp hv => (Below.heap_alloc w1 o b (Nat.lt_of_lt_of_le hb h.size)).trans (h.block b hb hp hv)⟩
theorem Step.drew (h : Step w p v w1 v1) : Step w p v w1.drew v1 := ⟨h.os, h.tape, h.output, h.size, h.row, h.block⟩
theorem Step.grown_none (h : Step w p v w1 v1) (hg : w1.grownBy w2 none) : Step w p v w2 v1 :=
  ⟨hg.os.trans h.os, hg.tape.trans h.tape, hg.output.trans h.output, Nat.le_trans h.size hg.size, h.row, fun b hb hp hv => (hg.block b (Nat.lt_of_lt_of_le hb h.size) (by simp)).trans (h.block b hb hp hv)⟩
theorem Wr.lt (h : Wr w p base v n) : p < w.heap.size := h.2.1.lt
theorem Wr.step_below (h : Wr w p base v n) (hs : Step w p v w1 v1) (hbase : base ≤ w.heap.size) : Below base w w1 :=
  ⟨hs.os, hs.tape, hs.output, hs.size, fun b hb => hs.block b (by omega) (by have := h.1; omega) (fun e => by
    obtain ⟨_, _, xs, hown⟩ := h
    have := (hown.lt b e).1
    omega)⟩
theorem Wr.alloc (h : Wr w p base v n) (o : Obj) : Wr (w.alloc o) p base v n := ⟨h.1, h.2.1.alloc o, h.2.2.imp fun _ h => h.alloc o⟩
theorem Wr.drew (h : Wr w p base v n) : Wr w.drew p base v n := h
theorem Wr.grown_none (h : Wr w p base v n) (hg : w.grownBy w1 none) : Wr w1 p base v n := ⟨h.1, h.2.1.grown hg (by simp), h.2.2.imp fun _ h => h.kept hg (by cases hv : v.ownBlock with | none => exact .inl rfl | some _ => exact .inr (by simp))⟩
/-- The header stands, and the row has got m bytes more. -/
theorem Wr.next (hp : base ≤ p) (hb : Step w p v w1 v1) (hB : Blk w1 p 66 [v1]) {xs : List Value} (hown : w1.ownsRow base 5 1 v1 n xs)
    {ys : List Value} (h1 : w2.ownsRow base 5 1 v2 (n + m) ys) (h2 : w1.grownBy w2 v1.ownBlock) (h2' : v2.ownBlock = v1.ownBlock ∨ v2.ownBlock = some w1.heap.size) (hB3 : Blk w3 p 66 [v2]) (h3 : w2.grownBy w3 (some p)) :
    Wr w3 p base v2 (n + m) ∧ Step w p v w3 v2 := by
  have hB2 : Blk w2 p 66 [v1] := hB.grown h2 (fun e => own_ne hown hB (by decide) e.symm)
  refine ⟨⟨hp, hB3, ys, h1.kept h3 (.inr (own_ne h1 hB2 (by decide)))⟩, hb.trans ?_⟩
  refine ⟨h3.os.trans h2.os, h3.tape.trans h2.tape, h3.output.trans h2.output, Nat.le_trans h2.size h3.size, h2'.imp id (fun e => ⟨_, e, Nat.le_refl _⟩), fun b hb hp hv => ?_⟩
  exact (h3.block b (Nat.lt_of_lt_of_le hb h2.size) (by simpa using hp)).trans (h2.block b hb (fun e => hv e.symm))
/-- Far from the writer p whose row is v. -/
def Far (p : Nat) (v : Value) (A : Option Addr) : Prop := ∀ b o, A = some ⟨b, o, none⟩ → b ≠ p ∧ v.ownBlock ≠ some b
theorem Far.step {A : Option Addr} {xs : List Value} (h : Far p v A) (hr : Rd w A xs) (hs : Step w p v w1 v1) : Rd w1 A xs := hr.keep fun b o u hA _ _ hc => by
  obtain ⟨h1, h2⟩ := h b o hA
  rw [World.cell?_of_block (w := w) (hs.block b (block_lt_of_cell hc) h1 h2)]; exact hc
theorem Far.row {A : Option Addr} (h : Far p v A) (hlt : ∀ b o, A = some ⟨b, o, none⟩ → b < w.heap.size) (hs : Step w p v w1 v1) : Far p v1 A := fun b o hA => by
  obtain ⟨h1, h2⟩ := h b o hA
  refine ⟨h1, fun e => ?_⟩
  rcases hs.row with e' | ⟨g, e', hg⟩
  · exact h2 (e'.symm.trans e)
  · rw [e'] at e; injection e with e; have := hlt b o hA; omega
theorem far_low (h : Wr w p base v n) {A : Option Addr} (hA : ∀ b o, A = some ⟨b, o, none⟩ → b < base) : Far p v A := fun b o e => by
  have hb := hA b o e
  refine ⟨by have := h.1; omega, fun e => ?_⟩
  obtain ⟨_, _, xs, hown⟩ := h
  have := (hown.lt b e).1
  omega
theorem far_new (h : Wr w p base v n) {A : Option Addr} (hA : ∀ b o, A = some ⟨b, o, none⟩ → w.heap.size ≤ b) : Far p v A := fun b o e => by
  have hb := hA b o e
  refine ⟨by have := h.lt; omega, fun e => ?_⟩
  obtain ⟨_, _, xs, hown⟩ := h
  have := (hown.lt b e).2
  omega
end
end Go.Proofs.YtcmponmgaikkfaaDoor
