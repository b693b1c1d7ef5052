/-
  proof.rowBytes, row, begins: what a row of a piece must be, where one may begin.
-/
import Derived.Test.YtcmponmgaikkfaaDoorBeside
import Derived.Stop.BytesEq
namespace Go.Proofs.YtcmponmgaikkfaaDoor
open Go.RowKit

/-- An inclusion proof. -/
structure Inc where
  size : Int
  number : Int
  way : List (List UInt8)
  deriving Inhabited
def incCells (size number : Int) (A : Option Addr) (n c : Nat) : List Value := [.int .i64 size, .int .i64 number, .slice A n c]
theorem size_inc : (Tryd.prog.info? 31).map (·.size) = some 3 := by kernel_rfl

theorem rowBytes_any (w : World) (A : Option Addr) (n c : Nat) (size number : Int) (B : Option Addr) (m d : Nat) (hn : n < 4294967296) (hm : m < 4294967296) :
    Calls Tryd.prog 28 #[.slice A n c, .agg (incCells size number B m d).toArray] w fun e w' => e = .returned (.int .i64 (12 + n + 32 * m : Nat)) ∧ Below w.heap.size w w' := by
  go_enter Tryd.func28, Tryd.ntmps28
  go_wp2_with (first
    | ((with_reducible refine law_box (.tmp 1) 31 (incCells size number B m d) ?_ ?_); (rfl); intro g1 w1 hg1 hB1 hr1 hs1; have hc := hB1.cell 2; simp only [incCells, List.getElem?_cons_succ, List.getElem?_cons_zero] at hc))
  go_ret
  exact ⟨congrArg (fun x => Ending.returned (.int .i64 x)) (show (12 : Int) + n + 32 * m = _ by omega), below_of_grown hr1 (Nat.le_refl _) (by simp)⟩

def rowB (n : Nat) (size number : Int) (m : Nat) (sz : Int) : Bool := inB size number && decide (besideN size number = m ∧ size = sz ∧ 1 ≤ n ∧ n ≤ 65536)

theorem row_any (w : World) (A : Option Addr) (n c : Nat) (size number : Int) (B : Option Addr) (m d : Nat) (sz : Int) (hn : n < 4294967296) (_hm : m < 4294967296) :
    Calls Tryd.prog 29 #[.slice A n c, .agg (incCells size number B m d).toArray, .int .i64 sz] w fun e w' => e = .returned (.bool (rowB n size number m sz)) ∧ Below w.heap.size w w' := by
  go_enter Tryd.func29, Tryd.ntmps29
  go_wp2_with (first
    | ((with_reducible refine law_box (.tmp 1) 31 (incCells size number B m d) ?_ ?_); (rfl); intro g1 w1 hg1 hB1 hr1 hs1; have hc0 := hB1.cell 0; have hc1 := hB1.cell 1; have hc2 := hB1.cell 2; simp only [incCells, List.getElem?_cons_succ, List.getElem?_cons_zero] at hc0 hc1 hc2)
    | (go_at_call 40; refine (beside_any _ size number).mono ?_; rintro e w2 ⟨rfl, rfl⟩))
  all_goals refine bodyPost_ret (results_tmp (t := 6) rfl _ _ _) rfl ⟨show Ending.returned (Value.bool _) = _ from congrArg (fun b => Ending.returned (Value.bool b)) ?_, below_of_grown hr1 (Nat.le_refl _) (by simp)⟩
  all_goals unfold rowB
  all_goals first
    | (rw [show inB size number = true by assumption, Bool.true_and]; first | exact decide_eq_decide.2 (by omega) | exact (decide_eq_false (by omega)).symm)
    | (rw [show inB size number = false from Bool.eq_false_iff.2 (by assumption), Bool.false_and])
    | (refine (Bool.and_eq_false_iff.2 (.inr (decide_eq_false (by omega)))).symm)
    | (subst_vars; rw [show inB sz number = true by assumption, Bool.true_and]; exact decide_eq_decide.2 (by omega))

/-! ### Equality of digests -/
theorem guard_digest : Tryd.prog.eqGuardType Tryd.prog.depth 23 = false := by kernel_rfl
theorem sizeOf_u8 (w : World) : (sizeOf 5).run Tryd.prog w = .ok 1 w := by
  obtain ⟨i, hi, _, h, _⟩ := info_parts info_u8
  simp [sizeOf, typeInfo, hi, h]
theorem run_eq_digest (w : World) (xs ys : List UInt8) (hx : xs.length = 32) (hy : ys.length = 32) : (binOp .eql 23 (.agg (bvs xs).toArray) (.agg (bvs ys).toArray)).run Tryd.prog w = .ok (.bool (xs == ys)) w :=
  run_eql_bytes w 23 5 32 Tryd.underlying23 Tryd.underlying5 sizeOf_u8 xs ys hx hy
theorem run_ne_digest (w : World) (xs ys : List UInt8) (hx : xs.length = 32) (hy : ys.length = 32) : (binOp .neq 23 (.agg (bvs xs).toArray) (.agg (bvs ys).toArray)).run Tryd.prog w = .ok (.bool (!(xs == ys))) w := by
  rw [run_neq_struct, show (10000 : Nat) = 9998 + 2 from rfl]
  have := run_equalIn_bytes w 9998 23 5 32 Tryd.underlying23 Tryd.underlying5 sizeOf_u8 xs ys hx hy
  rw [show (Op.equalIn (9998 + 2) 23 (.agg (bvs xs).toArray) (.agg (bvs ys).toArray)).run Tryd.prog w = .ok (xs == ys) w from this]
  rfl
section
variable {ops : Array Oper} {rest : List Oper} {a : Act} {w : World} {K : Act → World → Prop} {Q : Exit → Act → World → Prop} {dst : Option Tmp} {ty yt : TypeId} {pos : String} {after : Array Edge} {gd : Option (Nat × Bool)} {x y : Operand} {T : TypeId}
theorem op_eq_digest (x y : Operand) (xs ys : List UInt8) (hx : xs.length = 32) (hy : ys.length = 32) (hvx : a.eval x = .agg (bvs xs).toArray) (hvy : a.eval y = .agg (bvs ys).toArray) (h : K (a.put dst (.bool (xs == ys))) w) :
    Oper.wp Tryd.prog { dst, op := .binOp .eql 23 x y yt, type := ty, pos, after, guard := gd } a w K Q := by
  unfold Oper.wp execOp
  simp only [hvx, hvy, Sem.run_bind, run_eqGuard_agg w .eql 23 x y _ _ guard_digest, Result.andThen_ok, run_eq_digest w xs ys hx hy, Sem.run_pure, Oper.upon]
  exact h
theorem op_ne_digest (x y : Operand) (xs ys : List UInt8) (hx : xs.length = 32) (hy : ys.length = 32) (hvx : a.eval x = .agg (bvs xs).toArray) (hvy : a.eval y = .agg (bvs ys).toArray) (h : K (a.put dst (.bool (!(xs == ys)))) w) :
    Oper.wp Tryd.prog { dst, op := .binOp .neq 23 x y yt, type := ty, pos, after, guard := gd } a w K Q := by
  unfold Oper.wp execOp
  simp only [hvx, hvy, Sem.run_bind, run_eqGuard_agg w .neq 23 x y _ _ guard_digest, Result.andThen_ok, run_ne_digest w xs ys hx hy, Sem.run_pure, Oper.upon]
  exact h
theorem law_eq_digest_g (hw : Region.wanted { dst, op := .binOp .eql 23 x y yt, type := ty, pos, after, guard := gd } (yielded ops a.tmps) = true) (xs ys : List UInt8) (hx : xs.length = 32) (hy : ys.length = 32) (hvx : a.eval x = .agg (bvs xs).toArray) (hvy : a.eval y = .agg (bvs ys).toArray) (h : wpList Tryd.prog ops Q rest (a.put dst (.bool (xs == ys))) w) :
    wpList Tryd.prog ops Q ({ dst, op := .binOp .eql 23 x y yt, type := ty, pos, after, guard := gd } :: rest) a w :=
  BigFrame.wpList_want hw fun _ hK => op_eq_digest x y xs ys hx hy hvx hvy (hK _ _ h)
theorem law_ne_digest_g (hw : Region.wanted { dst, op := .binOp .neq 23 x y yt, type := ty, pos, after, guard := gd } (yielded ops a.tmps) = true) (xs ys : List UInt8) (hx : xs.length = 32) (hy : ys.length = 32) (hvx : a.eval x = .agg (bvs xs).toArray) (hvy : a.eval y = .agg (bvs ys).toArray) (h : wpList Tryd.prog ops Q rest (a.put dst (.bool (!(xs == ys)))) w) :
    wpList Tryd.prog ops Q ({ dst, op := .binOp .neq 23 x y yt, type := ty, pos, after, guard := gd } :: rest) a w :=
  BigFrame.wpList_want hw fun _ hK => op_ne_digest x y xs ys hx hy hvx hvy (hK _ _ h)
theorem law_load_g {P : Program} (hw : Region.wanted { dst, op := .load T x, type := ty, pos, after, guard := gd } (yielded ops a.tmps) = true) (D : TypeDesc) (hu : P.underlying T = some D) (hd : D.isRow = true) (g off : Nat) (hx : a.eval x = .pointer (some ⟨g, off, none⟩))
    (xs : List Value) (hi : (P.info? T).map (·.size) = some xs.length) (hc : w.rangeAt g off xs) (h : wpList P ops Q rest (a.put dst (.agg xs.toArray)) w) :
    wpList P ops Q ({ dst, op := .load T x, type := ty, pos, after, guard := gd } :: rest) a w :=
  BigFrame.wpList_want hw fun _ hK => wp_load_mid T x rfl g off hx xs D hc hu hd hi (hK _ _ h)
end

/-- May a piece begin so? -/
def zeroB (d : List UInt8) : Bool := d == List.replicate 32 0
def beginsB (s : ByteArray) (first : Int) (before : List UInt8) : Bool := namedB s && (decide (0 ≤ first) && (decide (0 < first) || zeroB before))
theorem begins_any (w : World) (s : ByteArray) (hs : s.size < 4294967296) (first : Int) (before : List UInt8) (hb : before.length = 32) :
    Calls Tryd.prog 13 #[.string s, .int .i64 first, .agg (bvs before).toArray] w fun e w' => e = .returned (.bool (beginsB s first before)) ∧ Below w.heap.size w w' := by
  have Hl := Lib.hid (show 32 = (bvs before).length by rw [bvs_length, hb])
  go_enter Tryd.func13, Tryd.ntmps13
  have hcases : namedB s = false ∨ (namedB s = true ∧ first < 0) ∨ (namedB s = true ∧ 0 < first) ∨ (namedB s = true ∧ first = 0) := by
    cases namedB s
    · exact .inl rfl
    · right; simp; omega
  rcases hcases with h | ⟨h, h'⟩ | ⟨h, h'⟩ | ⟨h, rfl⟩
  · have Hr := Lib.hid (show beginsB s first before = false by unfold beginsB; rw [h]; rfl)
    go_wp2_with (first
      | ((with_reducible refine law_box (.tmp 2) 23 (bvs before) ?_ ?_); (rfl); intro g1 w1 hg1 hB1 hr1 hs1)
      | (go_at_call 26; refine (named_any _ s hs).mono ?_; rintro e w2 ⟨rfl, rfl⟩; rw [h]))
    exact bodyPost_ret (results_tmp rfl _ _ _) rfl ⟨by rw [Hr.out]; rfl, below_of_grown hr1 (Nat.le_refl _) (by simp)⟩
  · have Hr := Lib.hid (show beginsB s first before = false by unfold beginsB; rw [h, decide_eq_false (by omega : ¬ 0 ≤ first)]; rfl)
    go_wp2_with (first
      | ((with_reducible refine law_box (.tmp 2) 23 (bvs before) ?_ ?_); (rfl); intro g1 w1 hg1 hB1 hr1 hs1)
      | (go_at_call 26; refine (named_any _ s hs).mono ?_; rintro e w2 ⟨rfl, rfl⟩; rw [h]))
    exact bodyPost_ret (results_tmp rfl _ _ _) rfl ⟨by rw [Hr.out]; rfl, below_of_grown hr1 (Nat.le_refl _) (by simp)⟩
  · have Hr := Lib.hid (show beginsB s first before = true by unfold beginsB; rw [h, decide_eq_true (by omega : 0 ≤ first), decide_eq_true h']; rfl)
    go_wp2_with (first
      | ((with_reducible refine law_box (.tmp 2) 23 (bvs before) ?_ ?_); (rfl); intro g1 w1 hg1 hB1 hr1 hs1)
      | (go_at_call 26; refine (named_any _ s hs).mono ?_; rintro e w2 ⟨rfl, rfl⟩; rw [h]))
    exact bodyPost_ret (results_tmp rfl _ _ _) rfl ⟨by rw [Hr.out]; rfl, below_of_grown hr1 (Nat.le_refl _) (by simp)⟩
  · have Hr := Lib.hid (show beginsB s 0 before = zeroB before by unfold beginsB; rw [h]; rfl)
    go_wp2_with (first
      | ((with_reducible refine law_box (.tmp 2) 23 (bvs before) ?_ ?_); (rfl); intro g1 w1 hg1 hB1 hr1 hs1)
      | (go_at_call 26; refine (named_any _ s hs).mono ?_; rintro e w2 ⟨rfl, rfl⟩; rw [h])
      | ((with_reducible refine law_load_g ?_ _ Tryd.underlying23 ?_ g1 0 ?_ (bvs before) ?_ hB1.range ?_); (rfl); (rfl); (rfl); (rw [← Hl.out]; exact size_digest))
      | ((with_reducible refine law_eq_digest_g ?_ before (List.replicate 32 0) hb rfl ?_ ?_ ?_); (rfl); (rfl); (rfl)))
    exact bodyPost_ret (results_tmp rfl _ _ _) rfl ⟨by rw [Hr.out]; rfl, below_of_grown hr1 (Nat.le_refl _) (by simp)⟩
end Go.Proofs.YtcmponmgaikkfaaDoor
