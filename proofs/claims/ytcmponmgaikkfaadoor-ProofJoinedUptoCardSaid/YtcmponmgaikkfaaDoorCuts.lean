/-
  Slices of slices; what is read behind a cut.
-/
import Derived.Test.YtcmponmgaikkfaaDoorPs
import Derived.Test.YtcmponmgaikkfaaDoorFork
namespace Go.Proofs.YtcmponmgaikkfaaDoor
open Go.RowKit

/-- Where a slice from the k-th element of size s on lies. -/
def cutA (A : Option Addr) (k c s : Nat) : Option Addr := if c = k then A else A.map (·.add (k * s))
section
variable {P : Program} {dst : Option Tmp} {ty : TypeId} {pos : String} {after : Array Edge}
theorem elem_of {t e : TypeId} (hu : P.underlying t = some (.slice e)) : P.elem t = e := by simp [Program.elem, hu]
theorem exec_from (ev : Operand → Value) (w : World) (t e : TypeId) (size : Nat) (hu : P.underlying t = some (.slice e)) (hi : (P.info? e).map (·.size) = some size) (x lo : Operand) (A : Option Addr) (n c k : Nat) (hx : ev x = .slice A n c) (hlo : ev lo = .int .i64 (k : Int)) (hk : k ≤ n) :
    (execOp ev { dst, op := .slice t x (some lo) none none, type := ty, pos, after, guard := none }).run P w = .ok (.value (.slice (cutA A k c size) (n - k) (c - k))) w := by
  have he := elem_of hu
  have hs : (sizeOf (P.elem t)).run P w = .ok size w := by
    rw [he]
    cases hq : P.info? e with
    | none => simp [hq] at hi
    | some i =>
      have : i.size = size := by simpa [hq] using hi
      simp [sizeOf, typeInfo, hq, this]
  unfold execOp
  simp only [hx, Option.map_some, Option.map_none, hlo, Sem.run_bind, run_sliceAt_slice w t _ _ _ _ (by rw [he]; exact hu), run_slice_l w t A n c (by rw [he]; exact hu) .i64 (k : Int) (by omega) (by omega), hs, Result.andThen_ok, Sem.run_pure, sliced, Int.toNat_natCast, cutA]
theorem exec_fromto (ev : Operand → Value) (w : World) (t e : TypeId) (size : Nat) (hu : P.underlying t = some (.slice e)) (hi : (P.info? e).map (·.size) = some size) (x lo hi' : Operand) (A : Option Addr) (n c k h : Nat) (hx : ev x = .slice A n c) (hlo : ev lo = .int .i64 (k : Int)) (hhi : ev hi' = .int .i64 (h : Int)) (hk : k ≤ h) (hc : h ≤ c) :
    (execOp ev { dst, op := .slice t x (some lo) (some hi') none, type := ty, pos, after, guard := none }).run P w = .ok (.value (.slice (cutA A k c size) (h - k) (c - k))) w := by
  have he := elem_of hu
  have hs : (sizeOf (P.elem t)).run P w = .ok size w := by
    rw [he]
    cases hq : P.info? e with
    | none => simp [hq] at hi
    | some i =>
      have : i.size = size := by simpa [hq] using hi
      simp [sizeOf, typeInfo, hq, this]
  unfold execOp
  simp only [hx, Option.map_some, Option.map_none, hlo, hhi, Sem.run_bind, run_sliceAt_slice w t _ _ _ _ (by rw [he]; exact hu), run_slice_lh w t A n c (by rw [he]; exact hu) .i64 .i64 (k : Int) (h : Int) (by omega) (by omega) (by omega), hs, Result.andThen_ok, Sem.run_pure, sliced, Int.toNat_natCast, cutA]
theorem exec_to (ev : Operand → Value) (w : World) (t e : TypeId) (size : Nat) (hu : P.underlying t = some (.slice e)) (hi : (P.info? e).map (·.size) = some size) (x hi' : Operand) (A : Option Addr) (n c h : Nat) (hx : ev x = .slice A n c) (hhi : ev hi' = .int .i64 (h : Int)) (hc : h ≤ c) :
    (execOp ev { dst, op := .slice t x none (some hi') none, type := ty, pos, after, guard := none }).run P w = .ok (.value (.slice (cutA A 0 c size) h c)) w := by
  have he := elem_of hu
  have hs : (sizeOf (P.elem t)).run P w = .ok size w := by
    rw [he]
    cases hq : P.info? e with
    | none => simp [hq] at hi
    | some i =>
      have : i.size = size := by simpa [hq] using hi
      simp [sizeOf, typeInfo, hq, this]
  unfold execOp
  simp only [hx, Option.map_some, Option.map_none, hhi, Sem.run_bind, run_sliceAt_slice w t _ _ _ _ (by rw [he]; exact hu), run_slice_h w t A n c (by rw [he]; exact hu) .i64 (h : Int) (by omega) (by omega), hs, Result.andThen_ok, Sem.run_pure, sliced, Int.toNat_natCast, cutA, Nat.sub_zero]
variable {ops : Array Oper} {rest : List Oper} {a : Act} {w : World} {Q : Exit → Act → World → Prop}
theorem law_fromto (t e : TypeId) (size : Nat) (hu : P.underlying t = some (.slice e)) (hi : (P.info? e).map (·.size) = some size) (x lo hi' : Operand) (A : Option Addr) (n c k h : Nat) (hx : a.eval x = .slice A n c) (hlo : a.eval lo = .int .i64 (k : Int)) (hhi : a.eval hi' = .int .i64 (h : Int)) (hk : k ≤ h) (hc : h ≤ c)
    (hK : wpList P ops Q rest (a.put dst (.slice (cutA A k c size) (h - k) (c - k))) w) :
    wpList P ops Q ({ dst, op := .slice t x (some lo) (some hi') none, type := ty, pos, after, guard := none } :: rest) a w :=
  wpList_plain rfl fun _ hK' => by
    unfold Oper.wp
    rw [exec_fromto a.eval w t e size hu hi x lo hi' A n c k h hx hlo hhi hk hc]
    exact hK' _ _ hK
end
theorem Rd.cutA {w : World} {A : Option Addr} {xs : List Value} (h : Rd w A xs) (k c s : Nat) (hc : c = k → xs.drop (k * s) = []) : Rd w (cutA A k c s) (xs.drop (k * s)) := by
  unfold Go.Proofs.YtcmponmgaikkfaaDoor.cutA
  split
  · rename_i e
    rw [hc e]
    exact Rd.nil _ _
  · exact h.cut (k * s)
theorem Parts.drop {w : World} {vs : List Value} {ls : List (List UInt8)} (h : Parts w vs ls) (k : Nat) : Parts w (vs.drop k) (ls.drop k) :=
  ⟨by rw [List.length_drop, List.length_drop, h.1], fun i v l h1 h2 => by rw [List.getElem?_drop] at h1 h2; exact h.2 _ v l h1 h2⟩
theorem Parts.take {w : World} {vs : List Value} {ls : List (List UInt8)} (h : Parts w vs ls) (k : Nat) : Parts w (vs.take k) (ls.take k) :=
  ⟨by rw [List.length_take, List.length_take, h.1], fun i v l h1 h2 => by
    rw [List.getElem?_take] at h1 h2
    split at h1
    · rename_i hi; rw [if_pos hi] at h2; exact h.2 _ v l h1 h2
    · cases h1⟩
theorem Incs.drop {w : World} {css : List (List Value)} {qs : List Inc} (h : Incs w css qs) (k : Nat) : Incs w (css.drop k) (qs.drop k) :=
  ⟨by rw [List.length_drop, List.length_drop, h.1], fun i v l h1 h2 => by rw [List.getElem?_drop] at h1 h2; exact h.2 _ v l h1 h2⟩
theorem Incs.take {w : World} {css : List (List Value)} {qs : List Inc} (h : Incs w css qs) (k : Nat) : Incs w (css.take k) (qs.take k) :=
  ⟨by rw [List.length_take, List.length_take, h.1], fun i v l h1 h2 => by
    rw [List.getElem?_take] at h1 h2
    split at h1
    · rename_i hi; rw [if_pos hi] at h2; exact h.2 _ v l h1 h2
    · cases h1⟩
theorem flatten_drop {css : List (List Value)} {s : Nat} (h : ∀ cs ∈ css, cs.length = s) (k : Nat) : (css.drop k).flatten = css.flatten.drop (k * s) := by
  induction k generalizing css with
  | zero => simp
  | succ k ih =>
    cases css with
    | nil => simp
    | cons c cs =>
      have hc : c.length = s := h c (by simp)
      rw [List.drop_succ_cons, ih (fun x hx => h x (List.mem_cons_of_mem _ hx)), List.flatten_cons, Nat.succ_mul, Nat.add_comm, ← List.drop_drop, ← hc, List.drop_left]
theorem flatten_take {css : List (List Value)} {s : Nat} (h : ∀ cs ∈ css, cs.length = s) (k : Nat) : (css.take k).flatten = css.flatten.take (k * s) := by
  induction k generalizing css with
  | zero => simp
  | succ k ih =>
    cases css with
    | nil => simp
    | cons c cs =>
      have hc : c.length = s := h c (by simp)
      rw [List.take_succ_cons, List.flatten_cons, ih (fun x hx => h x (List.mem_cons_of_mem _ hx)), List.flatten_cons, Nat.succ_mul, Nat.add_comm, ← hc, List.take_length_add_append]
theorem Rd.parts_drop {w : World} {A : Option Addr} {vs : List Value} (h : Rd w A vs) (k c : Nat) (hc : vs.length ≤ c) : Rd w (Go.Proofs.YtcmponmgaikkfaaDoor.cutA A k c 1) (vs.drop k) := by
  have := h.cutA k c 1 (fun e => List.drop_eq_nil_of_le (by omega))
  rwa [Nat.mul_one] at this
theorem Rd.incs_drop {w : World} {A : Option Addr} {css : List (List Value)} (h : Rd w A css.flatten) (h3 : ∀ cs ∈ css, cs.length = 3) (k c : Nat) (hc : css.length ≤ c) : Rd w (Go.Proofs.YtcmponmgaikkfaaDoor.cutA A k c 3) (css.drop k).flatten := by
  rw [flatten_drop h3]
  refine h.cutA k c 3 (fun e => List.drop_eq_nil_of_le ?_)
  have : css.flatten.length = css.length * 3 := by
    clear h hc
    induction css with
    | nil => rfl
    | cons c cs ih =>
      rw [List.flatten_cons, List.length_append, ih (fun x hx => h3 x (List.mem_cons_of_mem _ hx)), h3 c (by simp), List.length_cons]
      omega
  omega
/-! ### The ways' lengths, cut -/
theorem waysLen_sum (qs : List Inc) (n : Nat) : waysLen qs n = ((qs.take n).map (·.way.length)).sum := by
  induction n with
  | zero => rfl
  | succ n ih =>
    show waysLen qs n + (qs.getD n default).way.length = _
    rw [ih, List.take_add_one, List.map_append, List.sum_append]
    rcases Nat.lt_or_ge n qs.length with h | h
    · rw [List.getD_eq_getElem?_getD, List.getElem?_eq_getElem h]; simp
    · rw [List.getD_eq_getElem?_getD, List.getElem?_eq_none h]; simp; rfl
theorem waysLen_cut (qs : List Inc) (k n N : Nat) (h : k + n ≤ N) : waysLen ((qs.drop k).take n) n ≤ waysLen qs N := by
  rw [waysLen_sum, waysLen_sum, List.take_take, Nat.min_self]
  have e : qs.take (k + n) = qs.take k ++ (qs.drop k).take n := List.take_add
  have h1 : ((qs.take (k + n)).map (·.way.length)).sum = ((qs.take k).map (·.way.length)).sum + (((qs.drop k).take n).map (·.way.length)).sum := by rw [e, List.map_append, List.sum_append]
  have h2 : waysLen qs (k + n) ≤ waysLen qs N := waysLen_mono qs h
  rw [waysLen_sum, waysLen_sum] at h2
  omega
theorem way_le (qs : List Inc) : ∀ q ∈ qs, q.way.length ≤ waysLen qs qs.length := fun q hq => by
  obtain ⟨i, hi, rfl⟩ := List.mem_iff_getElem.1 hq
  have h := waysLen_mono qs (show i + 1 ≤ qs.length by omega)
  have e : qs.getD i default = qs[i] := by rw [List.getD_eq_getElem?_getD, List.getElem?_eq_getElem hi]; rfl
  have h2 : waysLen qs (i + 1) = waysLen qs i + qs[i].way.length := by show _ + _ = _; rw [e]
  omega
theorem Cuts.le {width : Int} {s : ByteArray} {first : Int} {before : List UInt8} {ls : List (List UInt8)} {qs : List Inc} {k : Nat} {ps : List Pc} (h : Cuts width s first before ls qs k ps) : ps.length ≤ k ∧ k ≤ ls.length := by
  induction h with
  | nil => exact ⟨Nat.le_refl _, Nat.zero_le _⟩
  | @snoc k ps h hk hn ih =>
    have := stepN_le width s first before ls qs k
    rw [List.length_append, List.length_singleton]
    omega
theorem piece_set_name (s s' : ByteArray) (first : Int) (before : List UInt8) (ev pr : Value) : (pieceCells s first before ev pr).set 0 (.string s') = pieceCells s' first before ev pr := rfl
theorem piece_set_first (s : ByteArray) (first first' : Int) (before : List UInt8) (ev pr : Value) : (pieceCells s first before ev pr).set 1 (.int .i64 first') = pieceCells s first' before ev pr := rfl
theorem piece_lay_before (s : ByteArray) (first : Int) (before before' : List UInt8) (h : before.length = 32) (h' : before'.length = 32) (ev pr : Value) : lay (pieceCells s first before ev pr) 2 (bvs before') = pieceCells s first before' ev pr :=
  lay_mid [.string s, .int .i64 first] (bvs before) [ev, pr] (bvs before') (by rw [bvs_length, bvs_length, h, h'])

/-! ### The worlds of the outer loop of proof.Pieces -/
/-- The chain's box, the row of pieces, the pieces' own memory. -/
structure Pv (w0 : World) (g1 : Nat) (bef : List UInt8) (s : ByteArray) (lv : Value) (ps : List Pc) (pvs : List (Value × Value)) (lo B : Nat) (wx : World) : Prop where
  bb : Blk wx g1 23 (bvs bef)
  row : wx.ownsRow w0.heap.size 37 36 lv ps.length (psCells s pvs ps).flatten
  mem : PcsMem wx B lo pvs ps
  be : Below w0.heap.size w0 wx
  hB : B ≤ wx.heap.size
  h1 : g1 < lo
  h0 : w0.heap.size ≤ g1
section
variable {w0 wx w' : World} {g1 : Nat} {bef bef' : List UInt8} {s : ByteArray} {lv lv' : Value} {ps : List Pc} {pvs : List (Value × Value)} {lo B B' : Nat}
theorem Pv.drew (h : Pv w0 g1 bef s lv ps pvs lo B wx) : Pv w0 g1 bef s lv ps pvs lo B wx.drew :=
  ⟨h.bb, h.row, h.mem.grown (grown_drew (grown_refl wx none)) (aside_none _ _), h.be.drew, h.hB, h.h1, h.h0⟩
theorem Pv.none (h : Pv w0 g1 bef s lv ps pvs lo B wx) (hg : wx.grownBy w' none) : Pv w0 g1 bef s lv ps pvs lo B w' :=
  ⟨h.bb.grown hg (by simp), h.row.kept hg (by cases hv : lv.ownBlock with | none => exact .inl rfl | some _ => exact .inr (by simp)), h.mem.grown hg (aside_none _ _), h.be.trans (below_of_grown hg h.be.size (by simp)), Nat.le_trans h.hB hg.size, h.h1, h.h0⟩
theorem Pv.below (h : Pv w0 g1 bef s lv ps pvs lo B wx) (hb : Below wx.heap.size wx w') : Pv w0 g1 bef s lv ps pvs lo B w' := h.none (grown_of_below hb _)
/-- A block of a piece's own that is not in the row turned. -/
theorem Pv.side (h : Pv w0 g1 bef s lv ps pvs lo B wx) {g : Nat} {cs : List Value} (hg : wx.grownBy w' (some g)) (hb : Blk wx g 37 cs) (hne : lv.ownBlock ≠ some g) (hlo : w0.heap.size ≤ g) : Pv w0 g1 bef s lv ps pvs lo B w' :=
  ⟨h.bb.grown hg (fun e => h.bb.ne_ hb (by decide) (by injection e)), h.row.kept hg (.inr hne), h.mem.grown hg (fun g' e => .inr (blk_typed hb g' e)), h.be.trans (below_of_grown hg h.be.size (fun k e => by injection e with e; rw [← e]; exact hlo)), Nat.le_trans h.hB hg.size, h.h1, h.h0⟩
/-- The chain's box turned. -/
theorem Pv.chain (h : Pv w0 g1 bef s lv ps pvs lo B wx) (hg : wx.grownBy w' (some g1)) (hb : Blk w' g1 23 (bvs bef')) : Pv w0 g1 bef' s lv ps pvs lo B w' :=
  ⟨hb, h.row.kept hg (.inr (own_ne h.row h.bb (by decide))), h.mem.grown hg (fun g' e => .inl (by injection e with e; rw [← e]; exact h.h1)), h.be.trans (below_of_grown hg h.be.size (fun k e => by injection e with e; rw [← e]; exact h.h0)), Nat.le_trans h.hB hg.size, h.h1, h.h0⟩
/-- One more piece. -/
theorem Pv.snoc (h : Pv w0 g1 bef s lv ps pvs lo B wx) {v : Value × Value} {p : Pc} (hB' : B ≤ B') (hp : PcMem wx B' v.1 v.2 p.ls p.qs) (hg : wx.grownBy w' lv.ownBlock) (hn : w'.ownsRow w0.heap.size 37 36 lv' (ps.length + 1) ((psCells s pvs ps).flatten ++ pieceCells s p.first p.before v.1 v.2)) (hwx : B' ≤ wx.heap.size) :
    Pv w0 g1 bef s lv' (ps ++ [p]) (pvs ++ [v]) lo w'.heap.size w' := by
  have ha : ∀ l, Aside wx l lv.ownBlock := fun l g e => .inr (own_typed h.row g e)
  have hm := h.mem.grown hg (ha _)
  have hp' := hp.grown hg (ha _)
  obtain ⟨h1, h2⟩ := hp'.own_lt
  refine ⟨h.bb.grown hg (fun e => own_ne h.row h.bb (by decide) e.symm), ?_, (hm.monoB hB').snoc hp' h1 h2 (Nat.le_trans hwx hg.size), h.be.trans (below_of_grown hg h.be.size (fun k e => (h.row.lt k e).1)), Nat.le_refl _, h.h1, h.h0⟩
  rw [List.length_append, List.length_singleton, psCells_snoc _ _ _ _ _ h.mem.length, List.flatten_append, List.flatten_singleton]
  exact hn
end
end Go.Proofs.YtcmponmgaikkfaaDoor
