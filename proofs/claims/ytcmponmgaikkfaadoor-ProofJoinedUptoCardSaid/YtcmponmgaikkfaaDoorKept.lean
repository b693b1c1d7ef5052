/-
  Words for the law: what is kept of a list of pieces while earlier pieces' rows turn.
-/
import Derived.Test.YtcmponmgaikkfaaDoorPieces
import Derived.Test.YtcmponmgaikkfaaDoorPlain
namespace Go.Proofs.YtcmponmgaikkfaaDoor
open Go.RowKit

/-- Each block from lo on that stood in w1 stands. -/
def Kp (w1 wx : World) (lo : Nat) : Prop := w1.heap.size ≤ wx.heap.size ∧ ∀ b, lo ≤ b → b < w1.heap.size → wx.heap[b]? = w1.heap[b]?
theorem Kp.refl (w1 : World) (lo : Nat) : Kp w1 w1 lo := ⟨Nat.le_refl _, fun _ _ _ => rfl⟩
theorem Kp.mono {w1 wx : World} {lo lo' : Nat} (h : Kp w1 wx lo) (hl : lo ≤ lo') : Kp w1 wx lo' := ⟨h.1, fun b hb => h.2 b (Nat.le_trans hl hb)⟩
theorem Kp.grown {w1 wx w' : World} {lo : Nat} {row : Option Nat} (h : Kp w1 wx lo) (hg : wx.grownBy w' row) (hr : ∀ g, row = some g → g < lo ∨ w1.heap.size ≤ g) : Kp w1 w' lo :=
  ⟨Nat.le_trans h.1 hg.size, fun b hb hlt => (hg.block b (Nat.lt_of_lt_of_le hlt h.1) (fun e => by rcases hr b e.symm with h | h <;> omega)).trans (h.2 b hb hlt)⟩
theorem lt_of_heap {w : World} {b : Nat} {o : Obj} (h : w.heap[b]? = some o) : b < w.heap.size := (Array.getElem?_eq_some_iff.1 h).1
theorem RdT.kp {w1 wx : World} {lo : Nat} {t : TypeId} {A : Option Addr} {xs : List Value} (h : RdT w1 t A xs) (hk : Kp w1 wx lo) (hlo : ∀ b o, A = some ⟨b, o, none⟩ → lo ≤ b) : RdT wx t A xs := fun hx => by
  obtain ⟨b, o, cells, fr, rfl, hb, hc⟩ := h hx
  have hs := hk.2 b (hlo b o rfl) (lt_of_heap hb)
  refine ⟨b, o, cells, fr, rfl, hs.trans hb, fun j u hu => ?_⟩
  rw [World.cell?_of_block (w := w1) hs]
  exact hc j u hu
theorem own_kp {w1 wx : World} {lo : Nat} {e : TypeId} {size n : Nat} {v : Value} {xs : List Value} (h : w1.ownsRow lo e size v n xs) (hk : Kp w1 wx lo) : wx.ownsRow lo e size v n xs :=
  ⟨h.1, h.2.imp id fun ⟨g, cap, cur, h1, h2, h3, h4⟩ => ⟨g, cap, cur, h1, h2, (hk.2 g h2 (lt_of_heap h3)).trans h3, h4⟩⟩
theorem PartsT.kp {w1 wx : World} {lo : Nat} {vs : List Value} {ls : List (List UInt8)} (h : PartsT w1 lo vs ls) (hk : Kp w1 wx lo) : PartsT wx lo vs ls :=
  ⟨h.1, fun i v l h1 h2 => by obtain ⟨A, c, e, h3, h4, h5, h6⟩ := h.2 i v l h1 h2; exact ⟨A, c, e, h3, h4, h5.kp hk h6, h6⟩⟩
theorem IncsT.kp {w1 wx : World} {lo : Nat} {css : List (List Value)} {qs : List Inc} (h : IncsT w1 lo css qs) (hk : Kp w1 wx lo) : IncsT wx lo css qs :=
  ⟨h.1, fun i v l h1 h2 => by obtain ⟨A, c, e, h3, h4, h5, h6, h7⟩ := h.2 i v l h1 h2; exact ⟨A, c, e, h3, h4, h5, h6.kp hk h7, h7⟩⟩
theorem PcMem.kp {w1 wx : World} {lo : Nat} {ev pr : Value} {ls : List (List UInt8)} {qs : List Inc} (h : PcMem w1 lo ev pr ls qs) (hk : Kp w1 wx lo) : PcMem wx lo ev pr ls qs := by
  obtain ⟨vs, css, h1, h2, h3, h4⟩ := h
  exact ⟨vs, css, own_kp h1 hk, own_kp h2 hk, h3.kp hk, h4.kp hk⟩
theorem PcsMem.kp {w1 wx : World} {B : Nat} : ∀ {lo : Nat} {vs : List (Value × Value)} {ps : List Pc}, PcsMem w1 B lo vs ps → Kp w1 wx lo → PcsMem wx B lo vs ps
  | _, [], [], h, _ => h
  | _, _ :: _, _ :: _, ⟨hi, hl, a, b, c, h⟩, hk => ⟨hi, hl, a.kp hk, b, c, h.kp (hk.mono hl)⟩

/-! ### A list of pieces, read -/
theorem psCells_len (s : ByteArray) : ∀ (vs : List (Value × Value)) (ps : List Pc), vs.length = ps.length → (psCells s vs ps).length = ps.length
  | [], [], _ => rfl
  | _ :: vs, _ :: ps, h => congrArg (· + 1) (psCells_len s vs ps (Nat.succ.inj h))
theorem psCells_get (s : ByteArray) : ∀ (vs : List (Value × Value)) (ps : List Pc) (i : Nat) (v : Value × Value) (p : Pc), vs[i]? = some v → ps[i]? = some p → (psCells s vs ps)[i]? = some (pieceCells s p.first p.before v.1 v.2)
  | [], _, _, _, _, h, _ => by simp at h
  | _ :: _, [], _, _, _, _, h => by simp at h
  | a :: vs, b :: ps, 0, v, p, h, h' => by
    simp at h h'
    subst h h'
    rfl
  | a :: vs, b :: ps, i + 1, v, p, h, h' => psCells_get s vs ps i v p (by simpa using h) (by simpa using h')
theorem psCells_36 (s : ByteArray) : ∀ (vs : List (Value × Value)) (ps : List Pc), (∀ p ∈ ps, p.before.length = 32) → ∀ cs ∈ psCells s vs ps, cs.length = 36
  | [], _, _, _, h => by simp [psCells] at h
  | _ :: _, [], _, _, h => by simp [psCells] at h
  | v :: vs, p :: ps, h32, cs, h => by
    rcases List.mem_cons.1 h with rfl | h
    · exact pieceCells_length _ _ _ (h32 p (by simp)) _ _
    · exact psCells_36 s vs ps (fun q hq => h32 q (List.mem_cons_of_mem _ hq)) cs h
/-- Piece i of a list of pieces. -/
theorem row_at {w : World} {base : Nat} {lv : Value} {s : ByteArray} {pvs : List (Value × Value)} {ps : List Pc} (h : w.ownsRow base 37 36 lv ps.length (psCells s pvs ps).flatten) (hl : pvs.length = ps.length) (h32 : ∀ p ∈ ps, p.before.length = 32) (hne : 0 < ps.length) :
    ∃ gl cap, lv = .slice (some ⟨gl, 0, none⟩) ps.length cap ∧ ps.length ≤ cap ∧ cap ≤ maxLen ∧ base ≤ gl ∧ gl < w.heap.size ∧ ∀ i v p, pvs[i]? = some v → ps[i]? = some p → w.rangeAt gl (i * 36) (pieceCells s p.first p.before v.1 v.2) := by
  rcases h.2 with ⟨_, hn⟩ | ⟨g, cap, cur, rfl, hb, hh, hc, hm, _⟩
  · omega
  · refine ⟨g, cap, rfl, hc, hm, hb, lt_of_heap hh, fun i v p hv hp => ?_⟩
    have hi : i < (psCells s pvs ps).length := by rw [psCells_len s pvs ps hl]; exact (List.getElem?_eq_some_iff.1 hp).1
    have := (Rd.of_own h).group (psCells_36 s pvs ps h32) i hi (by decide)
    have e : (psCells s pvs ps)[i] = pieceCells s p.first p.before v.1 v.2 := by
      have := psCells_get s pvs ps i v p hv hp
      rw [List.getElem?_eq_getElem hi] at this
      exact Option.some.inj this
    rw [e, Nat.zero_add] at this
    exact this
theorem piece_form {w : World} {lo : Nat} {ev pr : Value} {ls : List (List UInt8)} {qs : List Inc} (h : PcMem w lo ev pr ls qs) (hn : 0 < ls.length) (hq : 0 < qs.length) :
    ∃ ge ce gq cq vs css, ev = .slice (some ⟨ge, 0, none⟩) ls.length ce ∧ pr = .slice (some ⟨gq, 0, none⟩) qs.length cq ∧ lo ≤ ge ∧ lo ≤ gq ∧ ls.length ≤ ce ∧ ce ≤ maxLen ∧ qs.length ≤ cq ∧ cq ≤ maxLen ∧ w.ownsRow lo 27 1 ev ls.length vs ∧ w.ownsRow lo 31 3 pr qs.length css.flatten ∧ PartsT w lo vs ls ∧ IncsT w lo css qs ∧ Rd w (some ⟨ge, 0, none⟩) vs ∧ Rd w (some ⟨gq, 0, none⟩) css.flatten := by
  obtain ⟨vs, css, h1, h2, h3, h4⟩ := h
  rcases h1.2 with ⟨_, hn'⟩ | ⟨ge, ce, cur, hev, hb, hh, hc, hm, _⟩
  · omega
  · rcases h2.2 with ⟨_, hn'⟩ | ⟨gq, cq, cur', hpr, hb', hh', hc', hm', _⟩
    · omega
    · subst hev hpr
      exact ⟨ge, ce, gq, cq, vs, css, rfl, rfl, hb, hb', hc, hm, hc', hm', h1, h2, h3, h4, Rd.of_own h1, Rd.of_own h2⟩
/-- EncodePiece at a piece whose rows are owned. -/
theorem enc_own (w : World) (s : ByteArray) (hs : s.size < 4294967296) (first : Int) (before : List UInt8) (hbf : before.length = 32) (n lo b1 b2 : Nat) (ev pr : Value) (vs : List Value) (css : List (List Value)) (ls : List (List UInt8)) (qs : List Inc)
    (h1 : w.ownsRow b1 27 1 ev n vs) (h2 : w.ownsRow b2 31 3 pr n css.flatten) (h3 : PartsT w lo vs ls) (h4 : IncsT w lo css qs) (hl : ls.length = n) (hq : qs.length = n) (hn : 0 < n) (hmax : n ≤ maxLen) (hsl : ∀ l ∈ ls, l.length < 4294967296) (hsq : ∀ q ∈ qs, q.way.length < 4294967296) :
    Calls Tryd.prog 7 #[.agg (pieceCells s first before ev pr).toArray] w fun e w' => (∃ u, e = .returned (.tuple #[u, .int .i64 (encCode s first before ls qs)])) ∧ Below w.heap.size w w' := by
  rcases h1.2 with ⟨_, hn'⟩ | ⟨ge, ce, cur, hev, _⟩
  · omega
  · rcases h2.2 with ⟨_, hn'⟩ | ⟨gq, cq, cur', hpr, _⟩
    · omega
    · subst hev hpr
      exact enc_any w s hs first before hbf n (some ⟨ge, 0, none⟩) ce vs ls (some ⟨gq, 0, none⟩) cq css qs (Rd.of_own h1) h3.parts (Rd.of_own h2) h4.incs (Lib.hid (h3.1.trans hl)) (Lib.hid (h4.1.trans hq)) hmax hsl hsq

theorem piece_cells_one (s : ByteArray) (first : Int) (before : List UInt8) (ev pr : Value) (h1 : ev.oneCell' = true) (h2 : pr.oneCell' = true) : ∀ u ∈ pieceCells s first before ev pr, u.oneCell' = true := by
  intro u hu
  simp only [pieceCells, List.mem_append, List.mem_cons, List.not_mem_nil, or_false] at hu
  rcases hu with (rfl | rfl) | hu | rfl | rfl
  · rfl
  · rfl
  · exact oneCell_bvs _ u hu
  · exact h1
  · exact h2
theorem own_cell {w : World} {b : Nat} {e : TypeId} {size n c g : Nat} {xs : List Value} (h : w.ownsRow b e size (.slice (some ⟨g, 0, none⟩) n c) n xs) {j : Nat} {u : Value} (hj : xs[j]? = some u) : w.cell? ⟨g, j, none⟩ = some u := by
  have := h.cells (g := g) rfl j u hj
  rwa [add_none, Nat.zero_add] at this
theorem row_cells {w : World} {base gl n cl : Nat} {s : ByteArray} {pvs : List (Value × Value)} {ps : List Pc} (h : w.ownsRow base 37 36 (.slice (some ⟨gl, 0, none⟩) n cl) ps.length (psCells s pvs ps).flatten) (hl : pvs.length = ps.length) (h32 : ∀ p ∈ ps, p.before.length = 32) {i : Nat} {v : Value × Value} {p : Pc} (hv : pvs[i]? = some v) (hp : ps[i]? = some p) :
    w.rangeAt gl (i * 36) (pieceCells s p.first p.before v.1 v.2) ∧ w.cell? ⟨gl, i * 36 + 34, none⟩ = some v.1 ∧ w.cell? ⟨gl, i * 36 + 35, none⟩ = some v.2 := by
  have hi := (List.getElem?_eq_some_iff.1 hp).1
  obtain ⟨g', cap, e, _, _, _, _, hr⟩ := row_at h hl h32 (by omega)
  obtain rfl : gl = g' := by injection e with e; injection e with e; injection e
  have hr := hr i v p hv hp
  have hb : p.before.length = 32 := h32 p (List.mem_of_getElem? hp)
  exact ⟨hr, hr 34 _ (pieceCells_ev _ _ _ hb _ _), hr 35 _ (pieceCells_pr _ _ _ hb _ _)⟩
/-! ### The worlds of the law's first loop -/
structure Lx (w wp : World) (g10 g18 : Nat) (before ch : List UInt8) (s : ByteArray) (lv : Value) (ps : List Pc) (pvs : List (Value × Value)) (lo : Nat) (wx : World) : Prop where
  b10 : Blk wx g10 23 (bvs before)
  b18 : Blk wx g18 23 (bvs ch)
  row : wx.ownsRow w.heap.size 37 36 lv ps.length (psCells s pvs ps).flatten
  kp : Kp wp wx lo
  be : Below w.heap.size w wx
  h10 : g10 ≠ g18
  h18 : wp.heap.size ≤ g18
  hwp : w.heap.size ≤ wp.heap.size
  hlv : ∀ g, lv.ownBlock = some g → g < wp.heap.size
section
variable {w wp wx w' : World} {g10 g18 : Nat} {before ch ch' : List UInt8} {s : ByteArray} {lv : Value} {ps : List Pc} {pvs : List (Value × Value)} {lo hi : Nat}
theorem Lx.none (h : Lx w wp g10 g18 before ch s lv ps pvs lo wx) (hg : wx.grownBy w' none) : Lx w wp g10 g18 before ch s lv ps pvs lo w' :=
  ⟨h.b10.grown hg (by simp), h.b18.grown hg (by simp), h.row.kept hg (by cases hv : lv.ownBlock with | none => exact .inl rfl | some _ => exact .inr (by simp)), h.kp.grown hg (by simp), h.be.trans (below_of_grown hg h.be.size (by simp)), h.h10, h.h18, h.hwp, h.hlv⟩
theorem Lx.mono (h : Lx w wp g10 g18 before ch s lv ps pvs lo wx) (hl : lo ≤ hi) : Lx w wp g10 g18 before ch s lv ps pvs hi wx := ⟨h.b10, h.b18, h.row, h.kp.mono hl, h.be, h.h10, h.h18, h.hwp, h.hlv⟩
theorem Lx.drew (h : Lx w wp g10 g18 before ch s lv ps pvs lo wx) : Lx w wp g10 g18 before ch s lv ps pvs lo wx.drew := h.none (grown_drew (grown_refl wx _))
theorem Lx.below (h : Lx w wp g10 g18 before ch s lv ps pvs lo wx) (hb : Below wx.heap.size wx w') : Lx w wp g10 g18 before ch s lv ps pvs lo w' := h.none (grown_of_below hb _)
theorem Lx.chain (h : Lx w wp g10 g18 before ch s lv ps pvs lo wx) (hg : wx.grownBy w' (some g18)) (hb : Blk w' g18 23 (bvs ch')) : Lx w wp g10 g18 before ch' s lv ps pvs lo w' :=
  ⟨h.b10.grown hg (fun e => h.h10 (by injection e)), hb, h.row.kept hg (.inr (own_ne h.row h.b18 (by decide))), h.kp.grown hg (fun g e => .inr (by injection e with e; rw [← e]; exact h.h18)), h.be.trans (below_of_grown hg h.be.size (fun g e => by injection e with e; rw [← e]; exact Nat.le_trans h.hwp h.h18)), h.h10, h.h18, h.hwp, h.hlv⟩
/-- A copy of a piece turned. -/
theorem Lx.side (h : Lx w wp g10 g18 before ch s lv ps pvs lo wx) {g : Nat} {cs : List Value} (hg : wx.grownBy w' (some g)) (hb : Blk wx g 37 cs) (hl : wp.heap.size ≤ g) : Lx w wp g10 g18 before ch s lv ps pvs lo w' :=
  ⟨h.b10.grown hg (fun e => h.b10.ne_ hb (by decide) (by injection e)), h.b18.grown hg (fun e => h.b18.ne_ hb (by decide) (by injection e)), h.row.kept hg (.inr (fun e => by have := h.hlv g e; omega)), h.kp.grown hg (fun g' e => .inr (by injection e with e; rw [← e]; exact hl)), h.be.trans (below_of_grown hg h.be.size (fun k e => by injection e with e; rw [← e]; exact Nat.le_trans h.hwp hl)), h.h10, h.h18, h.hwp, h.hlv⟩
/-- A piece's row turned. -/
theorem Lx.turned (h : Lx w wp g10 g18 before ch s lv ps pvs lo wx) {b n size : Nat} {e : TypeId} {v : Value} {xs : List Value} (ho : wx.ownsRow b e size v n xs) (he : e ≠ 23) (he' : e ≠ 37) (hg : wx.grownBy w' v.ownBlock) (hl : lo ≤ hi) (hr : ∀ g, v.ownBlock = some g → w.heap.size ≤ g ∧ (g < hi ∨ wp.heap.size ≤ g)) : Lx w wp g10 g18 before ch s lv ps pvs hi w' :=
  ⟨h.b10.grown hg (fun e => own_ne ho h.b10 he e.symm), h.b18.grown hg (fun e => own_ne ho h.b18 he e.symm), h.row.kept hg (own_own_ne h.row ho (Ne.symm he')), (h.kp.mono hl).grown hg (fun g e => (hr g e).2), h.be.trans (below_of_grown hg h.be.size (fun g e => (hr g e).1)), h.h10, h.h18, h.hwp, h.hlv⟩
end

/-! ### Two lists of pieces in one -/
theorem psCells_append (s : ByteArray) (vs' : List (Value × Value)) (ps' : List Pc) : ∀ (vs : List (Value × Value)) (ps : List Pc), vs.length = ps.length → psCells s (vs ++ vs') (ps ++ ps') = psCells s vs ps ++ psCells s vs' ps'
  | [], [], _ => rfl
  | _ :: vs, _ :: ps, h => congrArg _ (psCells_append s vs' ps' vs ps (Nat.succ.inj h))
theorem PcsMem.get {w : World} {B : Nat} : ∀ {lo : Nat} {vs : List (Value × Value)} {ps : List Pc}, PcsMem w B lo vs ps → ∀ (i : Nat) v p, vs[i]? = some v → ps[i]? = some p → ∃ lo', lo ≤ lo' ∧ PcMem w lo' v.1 v.2 p.ls p.qs
  | _, [], [], _, i, _, _, h, _ => by simp at h
  | lo, a :: vs, b :: ps, ⟨hi, hl, h1, _, _, h2⟩, i, v, p, hv, hp => by
    cases i with
    | zero =>
      simp at hv hp
      subst hv hp
      exact ⟨lo, Nat.le_refl _, h1⟩
    | succ i =>
      obtain ⟨lo', h3, h4⟩ := h2.get i v p (by simpa using hv) (by simpa using hp)
      exact ⟨lo', Nat.le_trans hl h3, h4⟩
theorem ps_oneCell {w : World} {B : Nat} (s : ByteArray) : ∀ {lo : Nat} {vs : List (Value × Value)} {ps : List Pc}, PcsMem w B lo vs ps → ∀ u ∈ (psCells s vs ps).flatten, u.oneCell' = true
  | _, [], [], _, u, hu => by simp [psCells] at hu
  | lo, a :: vs, b :: ps, ⟨hi, hl, h1, _, _, h2⟩, u, hu => by
    rw [psCells, List.flatten_cons, List.mem_append] at hu
    rcases hu with hu | hu
    · exact piece_oneCell h1 _ _ _ u hu
    · exact ps_oneCell s h2 u hu
theorem pc_len {w : World} {lo : Nat} {ev pr : Value} {ls : List (List UInt8)} {qs : List Inc} (h : PcMem w lo ev pr ls qs) : ∃ Ae ce, ev = .slice Ae ls.length ce ∧ ls.length ≤ ce ∧ ce ≤ maxLen := by
  obtain ⟨vs, css, h1, _⟩ := h
  rcases h1.2 with ⟨rfl, h0⟩ | ⟨g, cap, cur, rfl, _, _, h2, h3, _⟩
  · exact ⟨none, 0, by rw [h0], by omega, by simp [maxLen]⟩
  · exact ⟨_, _, rfl, h2, h3⟩
/-- Every piece of a list stands. -/
def AllMem (w : World) (lo : Nat) (pvs : List (Value × Value)) (ps : List Pc) : Prop := ∀ (i : Nat) v p, pvs[i]? = some v → ps[i]? = some p → ∃ lo', lo ≤ lo' ∧ PcMem w lo' v.1 v.2 p.ls p.qs
theorem AllMem.append {w : World} {B B' lo lo1 lo2 : Nat} {vs vs' : List (Value × Value)} {ps ps' : List Pc} (h : PcsMem w B lo1 vs ps) (h' : PcsMem w B' lo2 vs' ps') (h1 : lo ≤ lo1) (h2 : lo ≤ lo2) : AllMem w lo (vs ++ vs') (ps ++ ps') := fun i v p hv hp => by
  have hl := h.length
  rcases Nat.lt_or_ge i vs.length with hlt | hge
  · rw [List.getElem?_append_left hlt] at hv
    rw [List.getElem?_append_left (by rw [← hl]; exact hlt)] at hp
    obtain ⟨lo', a, b⟩ := h.get i v p hv hp
    exact ⟨lo', Nat.le_trans h1 a, b⟩
  · rw [List.getElem?_append_right hge] at hv
    rw [List.getElem?_append_right (by rw [← hl]; exact hge), ← hl] at hp
    obtain ⟨lo', a, b⟩ := h'.get _ v p hv hp
    exact ⟨lo', Nat.le_trans h2 a, b⟩
theorem offP_succ (ps : List Pc) (i : Nat) (h : i < ps.length) : offP ps (i + 1) = offP ps i + ps[i].ls.length := by
  unfold offP
  rw [List.take_add_one, List.getElem?_eq_getElem h, List.map_append, List.sum_append]
  simp
theorem offP_le (ps : List Pc) {i j : Nat} (h : i ≤ j) (hj : j ≤ ps.length) : offP ps i ≤ offP ps j := by
  induction j with
  | zero => obtain rfl : i = 0 := by omega
            exact Nat.le_refl _
  | succ j ih =>
    rcases Nat.lt_or_ge i (j + 1) with h' | h'
    · have := ih (by omega) (by omega)
      rw [offP_succ ps j (by omega)]
      omega
    · obtain rfl : i = j + 1 := by omega
      exact Nat.le_refl _
theorem cuts_mem {width : Int} {s : ByteArray} {first : Int} {before : List UInt8} {ls : List (List UInt8)} {qs : List Inc} {k : Nat} {ps : List Pc} (h : Cuts width s first before ls qs k ps) : ∀ p ∈ ps, ∀ l ∈ p.ls, l ∈ ls := by
  induction h with
  | nil => intro p hp; cases hp
  | @snoc k ps h hk hn ih =>
    intro p hp l hl
    rcases List.mem_append.1 hp with h1 | h1
    · exact ih p h1 l hl
    · rw [List.mem_singleton.1 h1] at hl
      exact List.mem_of_mem_drop (List.mem_of_mem_take hl)
end Go.Proofs.YtcmponmgaikkfaaDoor
