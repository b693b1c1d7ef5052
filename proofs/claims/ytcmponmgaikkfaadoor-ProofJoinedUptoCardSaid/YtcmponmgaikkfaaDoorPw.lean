/-
  Words for proof.cut: a piece's memory; the worlds that its loop runs through.
-/
import Derived.Test.YtcmponmgaikkfaaDoorEnc
import Derived.Test.YtcmponmgaikkfaaDoorRoom
import Derived.Test.YtcmponmgaikkfaaDoorSame
namespace Go.Proofs.YtcmponmgaikkfaaDoor
open Go.RowKit

/-- Values that read as bytes, in blocks of bytes, made since the heap had lo blocks. -/
def PartsT (w : World) (lo : Nat) (vs : List Value) (ls : List (List UInt8)) : Prop :=
  vs.length = ls.length ∧ ∀ (i : Nat) v l, vs[i]? = some v → ls[i]? = some l → ∃ A c, v = .slice A l.length c ∧ l.length ≤ c ∧ c ≤ maxLen ∧ RdT w 5 A (bvs l) ∧ (∀ b o, A = some ⟨b, o, none⟩ → lo ≤ b)
theorem PartsT.parts {w : World} {lo : Nat} {vs : List Value} {ls : List (List UInt8)} (h : PartsT w lo vs ls) : Parts w vs ls :=
  ⟨h.1, fun i v l h1 h2 => by obtain ⟨A, c, e, h3, h4, h5, _⟩ := h.2 i v l h1 h2; exact ⟨A, c, e, h3, h4, h5.rd⟩⟩
/-- Inclusion proofs whose ways lie in blocks of digests. -/
def IncsT (w : World) (lo : Nat) (css : List (List Value)) (qs : List Inc) : Prop :=
  css.length = qs.length ∧ ∀ (i : Nat) cs q, css[i]? = some cs → qs[i]? = some q → ∃ A c, cs = incCells q.size q.number A q.way.length c ∧ q.way.length ≤ c ∧ c ≤ maxLen ∧ (∀ d ∈ q.way, d.length = 32) ∧ RdT w 23 A (q.way.flatMap bvs) ∧ (∀ b o, A = some ⟨b, o, none⟩ → lo ≤ b)
theorem IncsT.incs {w : World} {lo : Nat} {css : List (List Value)} {qs : List Inc} (h : IncsT w lo css qs) : Incs w css qs :=
  ⟨h.1, fun i cs q h1 h2 => by obtain ⟨A, c, e, h3, h4, h5, h6, _⟩ := h.2 i cs q h1 h2; exact ⟨A, c, e, h3, h4, h5, h6.rd⟩⟩
theorem PartsT.grown {w w' : World} {lo : Nat} {vs : List Value} {ls : List (List UInt8)} {row : Option Nat} {t' : TypeId} (h : PartsT w lo vs ls) (hg : w.grownBy w' row) (hrow : ∀ g, row = some g → ∃ c f, w.heap[g]? = some (.cells c t' f)) (hne : 5 ≠ t') : PartsT w' lo vs ls :=
  ⟨h.1, fun i v l h1 h2 => by obtain ⟨A, c, e, h3, h4, h5, h6⟩ := h.2 i v l h1 h2; exact ⟨A, c, e, h3, h4, h5.grown hg hrow hne, h6⟩⟩
theorem IncsT.grown {w w' : World} {lo : Nat} {css : List (List Value)} {qs : List Inc} {row : Option Nat} {t' : TypeId} (h : IncsT w lo css qs) (hg : w.grownBy w' row) (hrow : ∀ g, row = some g → ∃ c f, w.heap[g]? = some (.cells c t' f)) (hne : 23 ≠ t') : IncsT w' lo css qs :=
  ⟨h.1, fun i cs q h1 h2 => by obtain ⟨A, c, e, h3, h4, h5, h6, h7⟩ := h.2 i cs q h1 h2; exact ⟨A, c, e, h3, h4, h5, h6.grown hg hrow hne, h7⟩⟩
theorem PartsT.snoc {w : World} {lo : Nat} {vs : List Value} {ls : List (List UInt8)} (h : PartsT w lo vs ls) {l : List UInt8} {A : Option Addr} {c : Nat} (h1 : l.length ≤ c) (h2 : c ≤ maxLen) (h3 : RdT w 5 A (bvs l)) (h4 : ∀ b o, A = some ⟨b, o, none⟩ → lo ≤ b) :
    PartsT w lo (vs ++ [.slice A l.length c]) (ls ++ [l]) := by
  refine ⟨by simp [h.1], fun i v l' hv hl => ?_⟩
  rcases Nat.lt_or_ge i vs.length with hlt | hge
  · rw [List.getElem?_append_left hlt] at hv
    rw [List.getElem?_append_left (by rw [← h.1]; exact hlt)] at hl
    exact h.2 i v l' hv hl
  · rw [List.getElem?_append_right hge] at hv
    rw [List.getElem?_append_right (by rw [← h.1]; exact hge), ← h.1] at hl
    cases hk : i - vs.length with
    | zero =>
      rw [hk] at hv hl
      simp at hv hl
      subst hv hl
      exact ⟨A, c, rfl, h1, h2, h3, h4⟩
    | succ k => rw [hk] at hv; simp at hv
theorem IncsT.snoc {w : World} {lo : Nat} {css : List (List Value)} {qs : List Inc} (h : IncsT w lo css qs) {q : Inc} {A : Option Addr} {c : Nat} (h1 : q.way.length ≤ c) (h2 : c ≤ maxLen) (h3 : ∀ d ∈ q.way, d.length = 32) (h4 : RdT w 23 A (q.way.flatMap bvs)) (h5 : ∀ b o, A = some ⟨b, o, none⟩ → lo ≤ b) :
    IncsT w lo (css ++ [incCells q.size q.number A q.way.length c]) (qs ++ [q]) := by
  refine ⟨by simp [h.1], fun i v l' hv hl => ?_⟩
  rcases Nat.lt_or_ge i css.length with hlt | hge
  · rw [List.getElem?_append_left hlt] at hv
    rw [List.getElem?_append_left (by rw [← h.1]; exact hlt)] at hl
    exact h.2 i v l' hv hl
  · rw [List.getElem?_append_right hge] at hv
    rw [List.getElem?_append_right (by rw [← h.1]; exact hge), ← h.1] at hl
    cases hk : i - css.length with
    | zero =>
      rw [hk] at hv hl
      simp at hv hl
      subst hv hl
      exact ⟨A, c, rfl, h1, h2, h3, h4, h5⟩
    | succ k => rw [hk] at hv; simp at hv
/-- A piece's lists: rows of the call's own. -/
def PcMem (w : World) (lo : Nat) (evv prv : Value) (ls : List (List UInt8)) (qs : List Inc) : Prop :=
  ∃ vs css, w.ownsRow lo 27 1 evv ls.length vs ∧ w.ownsRow lo 31 3 prv qs.length css.flatten ∧ PartsT w lo vs ls ∧ IncsT w lo css qs

def waysLen (qs : List Inc) : Nat → Nat
  | 0 => 0
  | k + 1 => waysLen qs k + (qs.getD k default).way.length
theorem incs_ways {w : World} {css : List (List Value)} {qs : List Inc} (h : Incs w css qs) : ∀ q ∈ qs, ∀ d ∈ q.way, d.length = 32 := fun q hq => by
  obtain ⟨i, hi, rfl⟩ := List.mem_iff_getElem.1 hq
  have hi' : i < css.length := by rw [h.1]; exact hi
  obtain ⟨A, c, _, _, _, hd⟩ := h.2 i css[i] qs[i] (List.getElem?_eq_getElem hi') (List.getElem?_eq_getElem hi)
  exact hd.1
theorem inc_oneCell (size number : Int) (A : Option Addr) (n c : Nat) : ∀ u ∈ incCells size number A n c, u.oneCell' = true := by
  intro u hu
  simp only [incCells, List.mem_cons, List.not_mem_nil, or_false] at hu
  rcases hu with rfl | rfl | rfl <;> rfl
theorem waysLen_mono (qs : List Inc) {k n : Nat} (h : k ≤ n) : waysLen qs k ≤ waysLen qs n := by
  induction n with
  | zero => obtain rfl : k = 0 := by omega
            exact Nat.le_refl _
  | succ n ih =>
    rcases Nat.lt_or_ge k (n + 1) with h' | h'
    · have := ih (by omega); show _ ≤ waysLen qs n + _; omega
    · obtain rfl : k = n + 1 := by omega
      exact Nat.le_refl _
theorem info_piece : (Tryd.prog.info? 37).map (fun i => (i.zero, i.size, i.bytes)) = some (some (.agg (pieceCells ByteArray.empty 0 (List.replicate 32 0) (.slice none 0 0) (.slice none 0 0)).toArray), 36, 104) := by kernel_rfl
theorem info_inc : (Tryd.prog.info? 31).map (fun i => (i.zero, i.size, i.bytes)) = some (some (.agg (incCells 0 0 none 0 0).toArray), 3, 40) := by kernel_rfl

theorem info_b27 : (Tryd.prog.info? 27).map (fun i => (i.zero, i.size, i.bytes)) = some (some (.slice none 0 0), 1, 24) := by kernel_rfl
theorem size_s24 : (Tryd.prog.info? 24).map (·.size) = some 1 := by kernel_rfl
theorem size_s25 : (Tryd.prog.info? 25).map (·.size) = some 1 := by kernel_rfl

section
variable {P : Program} {ops : Array Oper} {rest : List Oper} {a : Act} {w : World} {Q : Exit → Act → World → Prop} {dst : Option Tmp} {ty : TypeId} {pos : String} {after : Array Edge} {K : Act → World → Prop}
/-- A slice of one element that is one cell. -/
theorem op_build_cell (x : Operand) (t e : TypeId) (ie : TypeInfo) (z : Value) (hu : P.underlying t = some (.slice e)) (hie : P.info? e = some ie) (hz : ie.zero = some z) (v : Value) (hx : a.eval x = v) (hv : v.cells = #[v]) (hs : ie.size = 1)
    (h : ∀ g w', Blk w' g e [v] → w.grownBy w' none → Hid (g = w.heap.size) → K (a.put dst (.slice (some ⟨g, 0, none⟩) 1 1)) w') :
    Oper.wp P { dst, op := .buildSlice t 1 #[(0, x)], type := ty, pos, after, guard := none } a w K Q := by
  have hr : (Instr.buildSlice t 1 #[(0, v)]).run P w = .ok (.slice (some ⟨w.heap.size, 0, none⟩) 1 1) (w.alloc (.cells #[v] e)) := by
    refine run_buildSlice w t e 1 _ #[v] ie z hu hie hz (by rw [hs]; omega) (by rw [hs]; omega) ?_
    have := Great.fill_whole (s := ie.size) (by rw [hs]; exact Nat.one_pos) [v] ((Array.range (1 * ie.size)).map (z.cells[· % z.cells.size]!)) (by intro u hu; rw [List.mem_singleton.1 hu, hv, hs]; rfl) (by simp)
    simpa [hv] using this
  unfold Oper.wp execOp
  simp only [List.map_toArray, List.map_cons, List.map_nil, hx, Sem.run_bind, hr, Result.andThen_ok]
  exact h _ _ (Blk.new w e [v]) (World.grownBy_alloc w _ none) rfl
theorem op_build_agg (x : Operand) (t e : TypeId) (ie : TypeInfo) (z : Value) (hu : P.underlying t = some (.slice e)) (hie : P.info? e = some ie) (hz : ie.zero = some z) (xs : List Value) (hx : a.eval x = .agg xs.toArray) (hs : ie.size = xs.length) (hp : 0 < xs.length) (hsm : xs.length ≤ 1000)
    (h : ∀ g w', Blk w' g e xs → w.grownBy w' none → Hid (g = w.heap.size) → K (a.put dst (.slice (some ⟨g, 0, none⟩) 1 1)) w') :
    Oper.wp P { dst, op := .buildSlice t 1 #[(0, x)], type := ty, pos, after, guard := none } a w K Q :=
  op_build_one x t e ie z hu hie hz xs hx hs hp hsm (h _ _ (Blk.new w e xs) (World.grownBy_alloc w _ none) rfl)
end

theorem own_typed {w : World} {base : Nat} {e : TypeId} {size n : Nat} {v : Value} {xs : List Value} (h : w.ownsRow base e size v n xs) : ∀ g, v.ownBlock = some g → ∃ c f, w.heap[g]? = some (.cells c e f) := fun g hg => by
  rcases h.2 with ⟨rfl, _⟩ | ⟨g', cap, cur, rfl, _, hh, _⟩
  · simp [Value.ownBlock] at hg
  · simp [Value.ownBlock] at hg
    subst hg
    exact ⟨_, _, hh⟩
theorem own_own_ne {w : World} {base base' : Nat} {e e' : TypeId} {size size' n n' : Nat} {v v' : Value} {xs xs' : List Value} (h : w.ownsRow base e size v n xs) (h' : w.ownsRow base' e' size' v' n' xs') (hne : e ≠ e') : v.ownBlock = none ∨ v.ownBlock ≠ v'.ownBlock := by
  cases hv : v.ownBlock with
  | none => exact .inl rfl
  | some g =>
    refine .inr fun e1 => ?_
    obtain ⟨c, f, h1⟩ := own_typed h g hv
    obtain ⟨c', f', h2⟩ := own_typed h' g e1.symm
    rw [h1] at h2
    injection h2 with h2
    injection h2 with _ ht
    exact hne ht
theorem blk_typed {w : World} {g : Nat} {t : TypeId} {cs : List Value} (h : Blk w g t cs) : ∀ g', some g = some g' → ∃ c f, w.heap[g']? = some (.cells c t f) := fun g' e => by
  injection e with e
  subst e
  exact ⟨_, _, h⟩

/-- The worlds of the second loop: the ways' block, the piece's, the result's, the two rows. -/
structure Cv (lo gw gp gr : Nat) (w0 : World) (wcs hcs rcs : List Value) (ev : Value) (ne : Nat) (xs : List Value) (pv : Value) (np : Nat) (ys : List Value) (vs : List Value) (ls : List (List UInt8)) (wr : World) : Prop where
  bw : Blk wr gw 23 wcs
  bp : Blk wr gp 37 hcs
  br : Blk wr gr 37 rcs
  oe : wr.ownsRow lo 27 1 ev ne xs
  op : wr.ownsRow lo 31 3 pv np ys
  pt : PartsT wr lo vs ls
  be : Below lo w0 wr
  lo' : lo ≤ w0.heap.size
  lp : lo ≤ gp
  lw : lo ≤ gw
  ne' : gr ≠ gp
section
variable {lo gw gp gr : Nat} {w0 : World} {wcs wcs' hcs hcs' rcs : List Value} {ev ev' : Value} {ne ne' : Nat} {xs xs' : List Value} {pv pv' : Value} {np np' : Nat} {ys ys' : List Value} {vs : List Value} {ls : List (List UInt8)} {wr w' : World}
theorem Cv.size (h : Cv lo gw gp gr w0 wcs hcs rcs ev ne xs pv np ys vs ls wr) : lo ≤ wr.heap.size := Nat.le_trans h.lo' h.be.size
theorem Cv.drew (h : Cv lo gw gp gr w0 wcs hcs rcs ev ne xs pv np ys vs ls wr) : Cv lo gw gp gr w0 wcs hcs rcs ev ne xs pv np ys vs ls wr.drew :=
  ⟨h.bw, h.bp, h.br, h.oe, h.op, h.pt, h.be.drew, h.lo', h.lp, h.lw, h.ne'⟩
theorem Cv.none (h : Cv lo gw gp gr w0 wcs hcs rcs ev ne xs pv np ys vs ls wr) (hg : wr.grownBy w' none) : Cv lo gw gp gr w0 wcs hcs rcs ev ne xs pv np ys vs ls w' :=
  ⟨h.bw.grown hg (by simp), h.bp.grown hg (by simp), h.br.grown hg (by simp), h.oe.kept hg (by cases hv : ev.ownBlock with | none => exact .inl rfl | some _ => exact .inr (by simp)), h.op.kept hg (by cases hv : pv.ownBlock with | none => exact .inl rfl | some _ => exact .inr (by simp)), h.pt.grown (t' := 5 + 1) hg (by simp) (by decide), h.be.trans (below_of_grown hg h.size (by simp)), h.lo', h.lp, h.lw, h.ne'⟩
theorem Cv.evs (h : Cv lo gw gp gr w0 wcs hcs rcs ev ne xs pv np ys vs ls wr) (hg : wr.grownBy w' ev.ownBlock) (hn : w'.ownsRow lo 27 1 ev' ne' xs') : Cv lo gw gp gr w0 wcs hcs rcs ev' ne' xs' pv np ys vs ls w' :=
  ⟨h.bw.grown hg (fun e => own_ne h.oe h.bw (by decide) e.symm), h.bp.grown hg (fun e => own_ne h.oe h.bp (by decide) e.symm), h.br.grown hg (fun e => own_ne h.oe h.br (by decide) e.symm), hn, h.op.kept hg (own_own_ne h.op h.oe (by decide)), h.pt.grown hg (own_typed h.oe) (by decide), h.be.trans (below_of_grown hg h.size (fun k hk => (h.oe.lt k hk).1)), h.lo', h.lp, h.lw, h.ne'⟩
theorem Cv.prs (h : Cv lo gw gp gr w0 wcs hcs rcs ev ne xs pv np ys vs ls wr) (hg : wr.grownBy w' pv.ownBlock) (hn : w'.ownsRow lo 31 3 pv' np' ys') : Cv lo gw gp gr w0 wcs hcs rcs ev ne xs pv' np' ys' vs ls w' :=
  ⟨h.bw.grown hg (fun e => own_ne h.op h.bw (by decide) e.symm), h.bp.grown hg (fun e => own_ne h.op h.bp (by decide) e.symm), h.br.grown hg (fun e => own_ne h.op h.br (by decide) e.symm), h.oe.kept hg (own_own_ne h.oe h.op (by decide)), hn, h.pt.grown hg (own_typed h.op) (by decide), h.be.trans (below_of_grown hg h.size (fun k hk => (h.op.lt k hk).1)), h.lo', h.lp, h.lw, h.ne'⟩
theorem Cv.hdr (h : Cv lo gw gp gr w0 wcs hcs rcs ev ne xs pv np ys vs ls wr) (hg : wr.grownBy w' (some gp)) (hn : Blk w' gp 37 hcs') : Cv lo gw gp gr w0 wcs hcs' rcs ev ne xs pv np ys vs ls w' :=
  ⟨h.bw.grown hg (fun e => h.bw.ne_ h.bp (by decide) (by injection e)), hn, h.br.grown hg (fun e => h.ne' (by injection e)), h.oe.kept hg (.inr (own_ne h.oe h.bp (by decide))), h.op.kept hg (.inr (own_ne h.op h.bp (by decide))), h.pt.grown hg (blk_typed h.bp) (by decide), h.be.trans (below_of_grown hg h.size (fun k hk => by injection hk with hk; rw [← hk]; exact h.lp)), h.lo', h.lp, h.lw, h.ne'⟩
theorem Cv.way (h : Cv lo gw gp gr w0 wcs hcs rcs ev ne xs pv np ys vs ls wr) (hg : wr.grownBy w' (some gw)) (hn : Blk w' gw 23 wcs') : Cv lo gw gp gr w0 wcs' hcs rcs ev ne xs pv np ys vs ls w' :=
  ⟨hn, h.bp.grown hg (fun e => h.bp.ne_ h.bw (by decide) (by injection e)), h.br.grown hg (fun e => h.br.ne_ h.bw (by decide) (by injection e)), h.oe.kept hg (.inr (own_ne h.oe h.bw (by decide))), h.op.kept hg (.inr (own_ne h.op h.bw (by decide))), h.pt.grown hg (blk_typed h.bw) (by decide), h.be.trans (below_of_grown hg h.size (fun k hk => by injection hk with hk; rw [← hk]; exact h.lw)), h.lo', h.lp, h.lw, h.ne'⟩
theorem Cv.parts {vs2 : List Value} {ls2 : List (List UInt8)} (h : Cv lo gw gp gr w0 wcs hcs rcs ev ne xs pv np ys vs ls wr) (p : PartsT wr lo vs2 ls2) : Cv lo gw gp gr w0 wcs hcs rcs ev ne xs pv np ys vs2 ls2 wr :=
  ⟨h.bw, h.bp, h.br, h.oe, h.op, p, h.be, h.lo', h.lp, h.lw, h.ne'⟩
end
theorem piece_set_ev (s : ByteArray) (first : Int) (before : List UInt8) (hb : before.length = 32) (ev pr x : Value) : (pieceCells s first before ev pr).set 34 x = pieceCells s first before x pr := by
  unfold pieceCells
  rw [List.set_append_right _ _ (by simp), List.set_append_right _ _ (by simp [bvs, hb])]
  simp [bvs, hb]
theorem piece_set_pr (s : ByteArray) (first : Int) (before : List UInt8) (hb : before.length = 32) (ev pr x : Value) : (pieceCells s first before ev pr).set 35 x = pieceCells s first before ev x := by
  unfold pieceCells
  rw [List.set_append_right _ _ (by simp), List.set_append_right _ _ (by simp [bvs, hb])]
  simp [bvs, hb]

/-! ### The ways, one behind the other -/
def wayCells (qs : List Inc) (k : Nat) : List Value := (qs.take k).flatMap fun q => q.way.flatMap bvs
theorem wayCells_succ (qs : List Inc) (k : Nat) (hk : k < qs.length) : wayCells qs (k + 1) = wayCells qs k ++ qs[k].way.flatMap bvs := by
  unfold wayCells
  rw [List.take_add_one, List.getElem?_eq_getElem hk, List.flatMap_append, Option.toList_some, List.flatMap_singleton]
theorem wayCells_length (qs : List Inc) (h : ∀ q ∈ qs, ∀ d ∈ q.way, d.length = 32) (k : Nat) (hk : k ≤ qs.length) : (wayCells qs k).length = waysLen qs k * 32 := by
  induction k with
  | zero => rfl
  | succ k ih =>
    rw [wayCells_succ qs k (by omega), List.length_append, ih (by omega)]
    have := digs_length (h qs[k] (List.getElem_mem (by omega)))
    rw [this]
    have e : qs.getD k default = qs[k] := by rw [List.getD_eq_getElem?_getD, List.getElem?_eq_getElem (by omega)]; rfl
    show _ = (waysLen qs k + (qs.getD k default).way.length) * 32
    rw [e]
    omega
/-- Where a slice of n digests from the low-th on begins: a slice without room keeps its row's begin. -/
def cutOff (low n : Nat) : Nat := if n = 0 then 0 else low * 32
def incAt (gw : Nat) (qs : List Inc) (j : Nat) : List Value := incCells (qs.getD j default).size (qs.getD j default).number (some ⟨gw, cutOff (waysLen qs j) (qs.getD j default).way.length, none⟩) (qs.getD j default).way.length (qs.getD j default).way.length
def incCut (gw : Nat) (qs : List Inc) (k : Nat) : List (List Value) := (List.range k).map (incAt gw qs)
theorem incCut_succ (gw : Nat) (qs : List Inc) (k : Nat) : (incCut gw qs (k + 1)).flatten = (incCut gw qs k).flatten ++ incAt gw qs k := by
  simp [incCut, List.range_succ]
theorem incsT_cut {w : World} {lo gw : Nat} {qs : List Inc} {rest : List Value} (hB : Blk w gw 23 (wayCells qs qs.length ++ rest)) (hlo : lo ≤ gw) (h32 : ∀ q ∈ qs, ∀ d ∈ q.way, d.length = 32) (hmax : waysLen qs qs.length ≤ maxLen) :
    IncsT w lo (incCut gw qs qs.length) qs := by
  refine ⟨by simp [incCut], fun i cs q h1 h2 => ?_⟩
  have hi : i < qs.length := (List.getElem?_eq_some_iff.1 h2).1
  obtain rfl : qs[i] = q := (List.getElem?_eq_some_iff.1 h2).2
  have e : qs.getD i default = qs[i] := by rw [List.getD_eq_getElem?_getD, List.getElem?_eq_getElem hi]; rfl
  have hcs : cs = incAt gw qs i := by
    simp [incCut, hi] at h1
    exact h1.symm
  have hle : waysLen qs (i + 1) ≤ waysLen qs qs.length := waysLen_mono qs (by omega)
  have hw : waysLen qs (i + 1) = waysLen qs i + qs[i].way.length := by show _ + _ = _; rw [e]
  refine ⟨some ⟨gw, cutOff (waysLen qs i) qs[i].way.length, none⟩, qs[i].way.length, by rw [hcs, incAt, e], Nat.le_refl _, by omega, h32 _ (List.getElem_mem hi), ?_, ?_⟩
  · intro hne
    have hn0 : qs[i].way.length ≠ 0 := fun h0 => hne (by rw [List.eq_nil_of_length_eq_zero h0]; rfl)
    have hco : cutOff (waysLen qs i) qs[i].way.length = waysLen qs i * 32 := if_neg hn0
    rw [hco]
    refine ⟨gw, waysLen qs i * 32, _, _, rfl, hB, fun j u hu => ?_⟩
    have hsplit : wayCells qs qs.length = wayCells qs i ++ (qs[i].way.flatMap bvs ++ (qs.drop (i + 1)).flatMap fun q => q.way.flatMap bvs) := by
      unfold wayCells
      rw [List.take_length]
      have e1 : qs = qs.take i ++ (qs[i] :: qs.drop (i + 1)) := by rw [List.getElem_cons_drop]; exact (List.take_append_drop i qs).symm
      have e2 := congrArg (List.flatMap fun q : Inc => q.way.flatMap bvs) e1
      rwa [List.flatMap_append, List.flatMap_cons] at e2
    rw [hB.cell, hsplit, List.append_assoc, List.append_assoc, List.getElem?_append_right (by rw [wayCells_length qs h32 i (by omega)]; omega), wayCells_length qs h32 i (by omega), Nat.add_sub_cancel_left, List.getElem?_append_left (List.getElem?_eq_some_iff.1 hu).1]
    exact hu
  · intro b o hA
    injection hA with hA
    injection hA with hb
    omega
end Go.Proofs.YtcmponmgaikkfaaDoor
