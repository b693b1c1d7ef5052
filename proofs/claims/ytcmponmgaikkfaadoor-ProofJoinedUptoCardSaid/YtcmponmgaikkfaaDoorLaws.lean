/-
  Laws for single operations over blocks that are known whole: a clear, a copy, a load and a store of a whole array or struct, an append onto a row of the call's own. Over any program.
-/
import Derived.Test.YtcmponmgaikkfaaDoorMem
import Derived.Deep.MidRow
import Derived.Laws.CopyOwn
import Derived.Maps.AppendAt
namespace Go.Proofs.YtcmponmgaikkfaaDoor
open Go.RowKit

/-- The row cs with xs laid over it from place off on. -/
def lay (cs : List Value) (off : Nat) (xs : List Value) : List Value := cs.take off ++ (xs ++ cs.drop (off + xs.length))
theorem lay_length (cs : List Value) (off : Nat) (xs : List Value) (h : off + xs.length ≤ cs.length) : (lay cs off xs).length = cs.length := by simp [lay]; omega
theorem lay_all (cs xs : List Value) (h : xs.length = cs.length) : lay cs 0 xs = xs := by simp [lay, h]
theorem lay_mid (a b c xs : List Value) (h : xs.length = b.length) : lay (a ++ (b ++ c)) a.length xs = a ++ (xs ++ c) := by
  simp [lay, h, List.drop_append]

theorem Blk.range {w : World} {g : Nat} {t : TypeId} {cs : List Value} (h : Blk w g t cs) : w.rangeAt g 0 cs := fun j v hv => by rw [h.cell, Nat.zero_add]; exact hv
theorem Blk.range_head {w : World} {g : Nat} {t : TypeId} {ys zs : List Value} (h : Blk w g t (ys ++ zs)) : w.rangeAt g 0 ys := fun j v hv => by
  rw [h.cell, Nat.zero_add, List.getElem?_append_left]
  · exact hv
  · exact (List.getElem?_eq_some_iff.1 hv).1
theorem Blk.range_mid {w : World} {g : Nat} {t : TypeId} {xs ys zs : List Value} (h : Blk w g t (xs ++ (ys ++ zs))) : w.rangeAt g xs.length ys := fun j v hv => by
  rw [h.cell, List.getElem?_append_right (by omega), Nat.add_sub_cancel_left, List.getElem?_append_left]
  · exact hv
  · exact (List.getElem?_eq_some_iff.1 hv).1

section
variable {P : Program}
theorem grown_setRow (w : World) (g : Nat) (cs : Array Value) : w.grownBy (w.setRow g cs) (some g) := ⟨rfl, rfl, rfl, by simp [World.setRow], fun k _ hn => setRow_other w g k cs (fun e => hn (by rw [e]))⟩
theorem blk_setRow {w : World} {g : Nat} {t : TypeId} {cs : List Value} (h : Blk w g t cs) (xs : List Value) : Blk (w.setRow g xs.toArray) g t xs := setRow_heap w g cs.toArray _ t _ h

theorem run_storeCells_blk {w : World} {g o : Nat} {t : TypeId} {cs : List Value} (hB : Blk w g t cs) (vs : List Value) (hfit : o + vs.length ≤ cs.length) (h1 : ∀ v ∈ vs, v.oneCell' = true) :
    (storeCells ⟨g, o, none⟩ vs 0).run P w = .ok () (w.setRow g (lay cs o vs).toArray) := by
  rw [run_storeCells_at P g o t vs 0 cs.toArray w hB (by simpa using hfit) h1]
  simp [lay]

variable {ops : Array Oper} {rest : List Oper} {a : Act} {w : World} {Q : Exit → Act → World → Prop} {dst : Option Tmp} {ty : TypeId} {pos : String} {after : Array Edge} {K : Act → World → Prop}

/-- 'clear(s)'. -/
theorem op_clear (x : Operand) (t e : TypeId) (i : TypeInfo) (z : Value) (hu : P.underlying t = some (.slice e)) (hi : P.info? e = some i) (hz : i.zero = some z) (hz1 : z.cells = #[z]) (ho : z.oneCell' = true)
    (g off n c : Nat) (hx : a.eval x = .slice (some ⟨g, off, none⟩) n c) (T : TypeId) (cs : List Value) (hB : Blk w g T cs) (hfit : off + n ≤ cs.length)
    (h : ∀ w', Blk w' g T (lay cs off (List.replicate n z)) → w.grownBy w' (some g) → w'.heap.size = w.heap.size → K (a.put dst (.tuple #[])) w') :
    Oper.wp P { dst, op := .call { callee := .builtin .clear, args := #[x], argTypes := #[t] }, type := ty, pos, after, guard := none } a w K Q := by
  have hzz : (zeroValue e).run P w = .ok z w := by simp [zeroValue, typeInfo, hi, hz]
  have hrep : (Builtin.zeroCells #[z] n).toList = List.replicate n z := by
    simp only [Builtin.zeroCells]
    apply List.ext_getElem
    · simp
    · intro j h1 h2; simp [Nat.mod_one]
  have hst := run_storeCells_blk (P := P) hB (List.replicate n z) (o := off) (by simpa using hfit) (fun v hv => by rw [List.eq_of_mem_replicate hv]; exact ho)
  have hrun : (Builtin.clear_ #[t] ty #[.slice (some ⟨g, off, none⟩) n c]).run P w = .ok (.tuple #[]) (w.setRow g (lay cs off (List.replicate n z)).toArray) := by
    rcases Nat.eq_zero_or_pos n with h0 | h0
    · subst h0
      have e0 : lay cs off (List.replicate 0 z) = cs := by simp [lay]
      rw [e0]
      have e1 : w.setRow g cs.toArray = w := setRow_self w g cs.toArray T _ hB
      rw [e1]
      simp [Builtin.clear_, run_underlying hu]
    · obtain ⟨m, rfl⟩ : ∃ m, n = m + 1 := ⟨n - 1, by omega⟩
      simp [Builtin.clear_, run_underlying hu, hzz, hz1, hrep, hst]
  unfold Oper.wp
  simp [execOp, resolve, invoke, builtin, hx, hrun, Result.andThen]
  exact h _ (blk_setRow hB _) (grown_setRow _ _ _) (by simp)

theorem law_clear (x : Operand) (t e : TypeId) (i : TypeInfo) (z : Value) (hu : P.underlying t = some (.slice e)) (hi : P.info? e = some i) (hz : i.zero = some z) (hz1 : z.cells = #[z]) (ho : z.oneCell' = true)
    (g off n c : Nat) (hx : a.eval x = .slice (some ⟨g, off, none⟩) n c) (T : TypeId) (cs : List Value) (hB : Blk w g T cs) (hfit : off + n ≤ cs.length)
    (h : ∀ w', Blk w' g T (lay cs off (List.replicate n z)) → w.grownBy w' (some g) → w'.heap.size = w.heap.size → wpList P ops Q rest (a.put dst (.tuple #[])) w') :
    wpList P ops Q ({ dst, op := .call { callee := .builtin .clear, args := #[x], argTypes := #[t] }, type := ty, pos, after, guard := none } :: rest) a w :=
  wpList_plain rfl fun _ hK => op_clear x t e i z hu hi hz hz1 ho g off n c hx T cs hB hfit (fun w' h1 h2 h3 => hK _ _ (h w' h1 h2 h3))
/-- 'copy(dst, src)': dst lies in a block that is known whole. -/
theorem law_copy (d s : Operand) (dT sT e : TypeId) (hu : P.underlying dT = some (.slice e)) (hsz : (P.info? e).map (·.size) = some 1)
    (g off dLen dCap : Nat) (hd : a.eval d = .slice (some ⟨g, off, none⟩) dLen dCap) (A : Option Addr) (sLen sCap : Nat) (hs : a.eval s = .slice A sLen sCap)
    (T : TypeId) (cs : List Value) (hB : Blk w g T cs) (xs : List Value) (hn : xs.length = Nat.min sLen dLen) (hsrc : Rd w A xs) (hfit : off + xs.length ≤ cs.length) (h1 : ∀ v ∈ xs, v.oneCell' = true)
    (h : ∀ w', Blk w' g T (lay cs off xs) → w.grownBy w' (some g) → w'.heap.size = w.heap.size → wpList P ops Q rest (a.put dst (.int .i64 xs.length)) w') :
    wpList P ops Q ({ dst, op := .call { callee := .builtin .copy, args := #[d, s], argTypes := #[dT, sT] }, type := ty, pos, after, guard := none } :: rest) a w := by
  by_cases h0 : xs = []
  · subst h0
    have e0 : lay cs off [] = cs := by simp [lay]
    refine wpList_copy_nothing rfl d s dT sT rfl e hu hsz (some ⟨g, off, none⟩) A dLen dCap sLen sCap hd hs (by simpa using hn.symm) ?_
    exact h w (by rw [e0]; exact hB) (grown_refl _ _) rfl
  · obtain ⟨b, o, rfl, hc⟩ := hsrc h0
    refine wpList_copy_own rfl d s dT sT rfl e hu hsz g off dLen dCap ⟨b, o, none⟩ sLen sCap hd hs cs.toArray T hB xs hn (fun j v hv => by rw [add_none]; exact hc j v hv) (by simpa using hfit) h1 ?_
    exact h _ (by simpa [lay] using blk_setRow hB (lay cs off xs)) (grown_setRow _ _ _) (by simp)

theorem step_copy {o : Oper} {K : Act → World → Prop} {E : Prop} {y : Nat → Option Bool} (hgd : o.guard = none) (d s : Operand) (dT sT e : TypeId) (ho : o.op = .call { callee := .builtin .copy, args := #[d, s], argTypes := #[dT, sT] }) (hu : P.underlying dT = some (.slice e)) (hsz : (P.info? e).map (·.size) = some 1)
    (g off dLen dCap : Nat) (hd : a.eval d = .slice (some ⟨g, off, none⟩) dLen dCap) (A : Option Addr) (sLen sCap : Nat) (hs : a.eval s = .slice A sLen sCap)
    (T : TypeId) (cs : List Value) (hB : Blk w g T cs) (xs : List Value) (hn : xs.length = Nat.min sLen dLen) (hsrc : Rd w A xs) (hfit : off + xs.length ≤ cs.length) (h1 : ∀ v ∈ xs, v.oneCell' = true)
    (h : ∀ w', Blk w' g T (lay cs off xs) → w.grownBy w' (some g) → w'.heap.size = w.heap.size → K (a.put o.dst (.int .i64 xs.length)) w') :
    if Region.wanted o y = true then Oper.wp P o a w K Q else E := by
  rw [if_pos (by simp [Region.wanted, hgd])]
  by_cases h0 : xs = []
  · subst h0
    have e0 : lay cs off [] = cs := by simp [lay]
    have hrun := run_copy_none (P := P) w dT sT o.type e (some ⟨g, off, none⟩) A dLen dCap sLen sCap hu hsz (by simpa using hn.symm)
    unfold Oper.wp
    simp [execOp, ho, resolve, invoke, builtin, hd, hs, hrun, Result.andThen]
    exact h w (by rw [e0]; exact hB) (grown_refl _ _) rfl
  · obtain ⟨b, o', rfl, hc⟩ := hsrc h0
    have hrun := run_copy_row (P := P) w dT sT o.type e g off dLen dCap ⟨b, o', none⟩ sLen sCap cs.toArray T xs hu hsz hB hn (fun j v hv => by rw [add_none]; exact hc j v hv) (by simpa using hfit) h1
    unfold Oper.wp
    simp [execOp, ho, resolve, invoke, builtin, hd, hs, hrun, Result.andThen]
    exact h _ (by simpa [lay] using blk_setRow hB (lay cs off xs)) (grown_setRow _ _ _) (by simp)

/-- A whole array or struct is read. -/
theorem law_load (x : Operand) (T : TypeId) (D : TypeDesc) (hu : P.underlying T = some D) (hd : D.isRow = true) (g off : Nat) (hx : a.eval x = .pointer (some ⟨g, off, none⟩))
    (xs : List Value) (hi : (P.info? T).map (·.size) = some xs.length) (hc : w.rangeAt g off xs) (h : wpList P ops Q rest (a.put dst (.agg xs.toArray)) w) :
    wpList P ops Q ({ dst, op := .load T x, type := ty, pos, after, guard := none } :: rest) a w :=
  wpList_load_mid rfl T x rfl g off hx xs D hc hu hd hi h

theorem run_storeVar_blk {w : World} {g o : Nat} {t : TypeId} {cs : List Value} (hB : Blk w g t cs) (T : TypeId) (xs : List Value) (hi : (P.info? T).map (·.size) = some xs.length) (hfit : o + xs.length ≤ cs.length) (h1 : ∀ v ∈ xs, v.oneCell' = true) :
    (storeVar T ⟨g, o, none⟩ (.agg xs.toArray)).run P w = .ok () (w.setRow g (lay cs o xs).toArray) := by
  cases hq : P.info? T with
  | none => simp [hq] at hi
  | some i =>
    have hs : i.size = xs.length := by simpa [hq] using hi
    have hst := run_storeCells_blk (P := P) hB xs (o := o) hfit h1
    simp [storeVar, sizeOf, typeInfo, hq, hs, Value.cells, hst]

/-- A whole array or struct is written. -/
theorem op_store (x y : Operand) (T : TypeId) (g off : Nat) (hx : a.eval x = .pointer (some ⟨g, off, none⟩)) (xs : List Value) (hy : a.eval y = .agg xs.toArray)
    (hi : (P.info? T).map (·.size) = some xs.length) (t : TypeId) (cs : List Value) (hB : Blk w g t cs) (hfit : off + xs.length ≤ cs.length) (h1 : ∀ v ∈ xs, v.oneCell' = true)
    (h : ∀ w', Blk w' g t (lay cs off xs) → w.grownBy w' (some g) → w'.heap.size = w.heap.size → K (a.put dst undef) w') :
    Oper.wp P { dst, op := .store T x y, type := ty, pos, after, guard := none } a w K Q := by
  have hrun := run_storeVar_blk (P := P) hB T xs hi hfit h1
  unfold Oper.wp execOp
  simp [hx, hy, Instr.storeAt, Instr.sureAddr, hrun, Oper.upon]
  exact h _ (blk_setRow hB _) (grown_setRow _ _ _) (by simp)
theorem law_store (x y : Operand) (T : TypeId) (g off : Nat) (hx : a.eval x = .pointer (some ⟨g, off, none⟩)) (xs : List Value) (hy : a.eval y = .agg xs.toArray)
    (hi : (P.info? T).map (·.size) = some xs.length) (t : TypeId) (cs : List Value) (hB : Blk w g t cs) (hfit : off + xs.length ≤ cs.length) (h1 : ∀ v ∈ xs, v.oneCell' = true)
    (h : ∀ w', Blk w' g t (lay cs off xs) → w.grownBy w' (some g) → w'.heap.size = w.heap.size → wpList P ops Q rest (a.put dst undef) w') :
    wpList P ops Q ({ dst, op := .store T x y, type := ty, pos, after, guard := none } :: rest) a w :=
  wpList_plain rfl fun _ hK => op_store x y T g off hx xs hy hi t cs hB hfit h1 (fun w' h1 h2 h3 => hK _ _ (h w' h1 h2 h3))
/-- A new variable that holds a whole array or struct. -/
theorem op_box (v : Operand) (T : TypeId) (xs : List Value) (hv : a.eval v = .agg xs.toArray)
    (h : ∀ (g : Nat) w', Hid (g = w.heap.size) → Blk w' g T xs → w.grownBy w' none → Hid (w'.heap.size = g + 1) → K (a.put dst (.pointer (some ⟨g, 0, none⟩))) w') :
    Oper.wp P { dst, op := .box T v, type := ty, pos, after, guard := none } a w K Q := by
  unfold Oper.wp execOp
  have hrun : (Instr.box T (.agg xs.toArray)).run P w = .ok (.pointer (some ⟨w.heap.size, 0, none⟩)) (w.alloc (.cells xs.toArray T)) := by simp [Instr.box, newVar, newRow, Value.cells]
  simp only [hv, Sem.run_bind, hrun, Result.andThen_ok, Sem.run_pure, Oper.upon]
  exact h w.heap.size _ rfl (Blk.new w T xs) (World.grownBy_alloc w _ none) (show (w.alloc _).heap.size = _ by simp)

theorem law_box (v : Operand) (T : TypeId) (xs : List Value) (hv : a.eval v = .agg xs.toArray)
    (h : ∀ (g : Nat) w', Hid (g = w.heap.size) → Blk w' g T xs → w.grownBy w' none → Hid (w'.heap.size = g + 1) → wpList P ops Q rest (a.put dst (.pointer (some ⟨g, 0, none⟩))) w') :
    wpList P ops Q ({ dst, op := .box T v, type := ty, pos, after, guard := none } :: rest) a w :=
  wpList_plain rfl fun _ hK => op_box v T xs hv (fun g w' h1 h2 h3 h4 => hK _ _ (h g w' h1 h2 h3 h4))
/-- A new variable at its zero value. -/
theorem op_alloc (T : TypeId) (i : TypeInfo) (z : Value) (hi : P.info? T = some i) (hz : i.zero = some z) (xs : List Value) (hx : z.cells = xs.toArray)
    (h : ∀ (g : Nat) w', Hid (g = w.heap.size) → Blk w' g T xs → w.grownBy w' none → Hid (w'.heap.size = g + 1) → K (a.put dst (.pointer (some ⟨g, 0, none⟩))) w') :
    Oper.wp P { dst, op := .alloc T, type := ty, pos, after, guard := none } a w K Q := by
  unfold Oper.wp execOp
  have hrun : (Instr.alloc T true (.tuple #[])).run P w = .ok (.pointer (some ⟨w.heap.size, 0, none⟩)) (w.alloc (.cells xs.toArray T)) := by simp [Instr.alloc, newVar, newRow, zeroValue, typeInfo, hi, hz, hx]
  simp only [Sem.run_bind, hrun, Result.andThen_ok, Sem.run_pure, Oper.upon]
  exact h w.heap.size _ rfl (Blk.new w T xs) (World.grownBy_alloc w _ none) (show (w.alloc _).heap.size = _ by simp)
theorem law_alloc (T : TypeId) (i : TypeInfo) (z : Value) (hi : P.info? T = some i) (hz : i.zero = some z) (xs : List Value) (hx : z.cells = xs.toArray)
    (h : ∀ (g : Nat) w', Hid (g = w.heap.size) → Blk w' g T xs → w.grownBy w' none → Hid (w'.heap.size = g + 1) → wpList P ops Q rest (a.put dst (.pointer (some ⟨g, 0, none⟩))) w') :
    wpList P ops Q ({ dst, op := .alloc T, type := ty, pos, after, guard := none } :: rest) a w :=
  wpList_plain rfl fun _ hK => op_alloc T i z hi hz xs hx (fun g w' h1 h2 h3 h4 => hK _ _ (h g w' h1 h2 h3 h4))
theorem isAgg_no {w : World} {T : TypeId} {D : TypeDesc} (hu : P.underlying T = some D) (hd : D.isRow = false) : (isAgg T).run P w = .ok false w := by
  unfold isAgg
  rw [Sem.run_bind, run_underlying hu w]
  cases D <;> simp_all
/-- One cell is read. -/
theorem op_loadCell (x : Operand) (T : TypeId) (D : TypeDesc) (hu : P.underlying T = some D) (hd : D.isRow = false) (g off : Nat) (hx : a.eval x = .pointer (some ⟨g, off, none⟩))
    (v : Value) (hc : w.cell? ⟨g, off, none⟩ = some v) (h : K (a.put dst v) w) :
    Oper.wp P { dst, op := .load T x, type := ty, pos, after, guard := none } a w K Q := by
  unfold Oper.wp execOp
  have hrun : (Instr.loadAt T (.pointer (some ⟨g, off, none⟩))).run P w = .ok v w := by
    simp [Instr.loadAt, Instr.sureAddr, loadVar, isAgg_no hu hd, hc]
  simp only [hx, Sem.run_bind, hrun, Result.andThen_ok, Sem.run_pure, Oper.upon]
  exact h
theorem law_loadCell (x : Operand) (T : TypeId) (D : TypeDesc) (hu : P.underlying T = some D) (hd : D.isRow = false) (g off : Nat) (hx : a.eval x = .pointer (some ⟨g, off, none⟩))
    (v : Value) (hc : w.cell? ⟨g, off, none⟩ = some v) (h : wpList P ops Q rest (a.put dst v) w) :
    wpList P ops Q ({ dst, op := .load T x, type := ty, pos, after, guard := none } :: rest) a w :=
  wpList_plain rfl fun _ hK => op_loadCell x T D hu hd g off hx v hc (hK _ _ h)
/-- One cell is written. -/
theorem op_storeCell (x y : Operand) (T : TypeId) (g off : Nat) (hx : a.eval x = .pointer (some ⟨g, off, none⟩)) (v : Value) (hy : a.eval y = v) (hv : v.cells = #[v]) (h1 : v.oneCell' = true)
    (hi : (P.info? T).map (·.size) = some 1) (t : TypeId) (cs : List Value) (hB : Blk w g t cs) (hfit : off < cs.length)
    (h : ∀ w', Blk w' g t (cs.set off v) → w.grownBy w' (some g) → w'.heap.size = w.heap.size → K (a.put dst undef) w') :
    Oper.wp P { dst, op := .store T x y, type := ty, pos, after, guard := none } a w K Q := by
  have hl : lay cs off [v] = cs.set off v := by
    simp only [lay, List.length_singleton]
    rw [List.set_eq_take_append_cons_drop, if_pos hfit]
    simp
  have hst := run_storeCells_blk (P := P) hB [v] (o := off) (by simp; omega) (fun u hu => by rw [List.mem_singleton.1 hu]; exact h1)
  rw [hl] at hst
  cases hq : P.info? T with
  | none => simp [hq] at hi
  | some i =>
    have hs : i.size = 1 := by simpa [hq] using hi
    have hrun : (Instr.storeAt T (.pointer (some ⟨g, off, none⟩)) v).run P w = .ok () (w.setRow g (cs.set off v).toArray) := by
      simp only [Instr.storeAt, Instr.sureAddr, storeVar, sizeOf, typeInfo, Sem.run_bind, Sem.run_pure, Result.andThen_ok]
      simp [hq, hs, hv, hst]
    unfold Oper.wp execOp
    simp only [hx, hy, Sem.run_bind, hrun, Result.andThen_ok, Sem.run_pure, Oper.upon]
    exact h _ (blk_setRow hB _) (grown_setRow _ _ _) (by simp)
theorem law_storeCell (x y : Operand) (T : TypeId) (g off : Nat) (hx : a.eval x = .pointer (some ⟨g, off, none⟩)) (v : Value) (hy : a.eval y = v) (hv : v.cells = #[v]) (h1 : v.oneCell' = true)
    (hi : (P.info? T).map (·.size) = some 1) (t : TypeId) (cs : List Value) (hB : Blk w g t cs) (hfit : off < cs.length)
    (h : ∀ w', Blk w' g t (cs.set off v) → w.grownBy w' (some g) → w'.heap.size = w.heap.size → wpList P ops Q rest (a.put dst undef) w') :
    wpList P ops Q ({ dst, op := .store T x y, type := ty, pos, after, guard := none } :: rest) a w :=
  wpList_plain rfl fun _ hK => op_storeCell x y T g off hx v hy hv h1 hi t cs hB hfit (fun w' h1 h2 h3 => hK _ _ (h w' h1 h2 h3))
/-- A struct or array is built of parts. -/
theorem op_build (T : TypeId) (parts : Array (Nat × Operand)) (v : Value) (hrun : (Instr.build T (parts.map fun x => (x.1, a.eval x.2))).run P w = .ok v w) (h : K (a.put dst v) w) :
    Oper.wp P { dst, op := .build T parts, type := ty, pos, after, guard := none } a w K Q := by
  unfold Oper.wp execOp
  simp only [Sem.run_bind, hrun, Result.andThen_ok, Sem.run_pure, Oper.upon]
  exact h
theorem law_build (T : TypeId) (parts : Array (Nat × Operand)) (v : Value) (hrun : (Instr.build T (parts.map fun x => (x.1, a.eval x.2))).run P w = .ok v w) (h : wpList P ops Q rest (a.put dst v) w) :
    wpList P ops Q ({ dst, op := .build T parts, type := ty, pos, after, guard := none } :: rest) a w :=
  wpList_plain rfl fun _ hK => op_build T parts v hrun (hK _ _ h)
/-- A function whose one result lies in memory, an array or a struct, returns. -/
theorem ret_cell {fn : Func} {R : Ending → World → Prop} {p : Tmp} {T : TypeId} (h : fn.results = #[.cell p T]) (g : Nat) (hp : a.tmps.getD p undef = .pointer (some ⟨g, 0, none⟩)) (t : TypeId) (xs : List Value) (hB : Blk w g t xs)
    (D : TypeDesc) (hu : P.underlying T = some D) (hd : D.isRow = true) (hi : (P.info? T).map (·.size) = some xs.length) (hdf : a.defers = []) (hR : R (.returned (.agg xs.toArray)) w) : bodyPost P fn R .ret a w :=
  bodyPost_ret (results_cell_row h a.tmps w g t xs.toArray (0, 0) D hp hB hu (by cases D <;> first | rfl | cases hd) (by simpa using hi)) hdf hR
end
end Go.Proofs.YtcmponmgaikkfaaDoor
