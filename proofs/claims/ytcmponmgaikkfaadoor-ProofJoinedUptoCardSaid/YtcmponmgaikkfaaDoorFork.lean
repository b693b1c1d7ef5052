/-
  A region that draws its order, where two loud operations come up together: both orders. Over any program. A load of a whole block in a plan.
-/
import Derived.Test.YtcmponmgaikkfaaDoorPlan
import Derived.Test.YtcmponmgaikkfaaDoorLaws
namespace Go.Proofs.YtcmponmgaikkfaaDoor
open Go.RowKit

section
variable {P : Program} {ops : Array Oper} {Q : Exit → Act → World → Prop} {md : Region.Mode} {S : World → Prop} {F : Nat}

theorem loud_step (hs : Region.noSelect ops = true) (hQ : ∀ c a d v w, Q (.panic c) (a.put d v) w → Q (.panic c) a w) {i : Nat} {rest : List (Nat × Bool)} {listed : Array Bool} {late : Bool} {a : Act} {w : World}
    (hr' : i ∈ Region.ready md ops listed) (hrest : planOk md ops F rest (listed.setIfInBounds i true) = true) (hl : late = true → listed.getD F false = true) (h : wpPlan P ops Q S F ((i, false) :: rest) late a w) :
    wpOp P ops Q i (fun a' w' => (i = F ∨ listed.getD F false = true ∨ S w') ∧ wpAnyK P md ops Q S F rest.length (listed.setIfInBounds i true) a' w') a w := by
  obtain ⟨hun, o, ho, _⟩ := mem_ready.1 hr'
  have hsz : i < listed.size := by
    rcases Nat.lt_or_ge i listed.size with h' | h'
    · exact h'
    · simp [Array.getElem?_eq_none h'] at hun
  obtain ⟨hwant, hwp⟩ := h o ho
  unfold wpOp
  simp only [ho, hwant, if_true]
  refine .inl (Oper.wp_mono (fun a' w' h' => ?_) hwp)
  refine ⟨?_, wpAnyK_of_plan hs hQ rest _ (late || i == F) a' w' hrest ?_ ?_ h'.2⟩
  · rcases h'.1 with e | e | e
    · exact .inr (.inl (hl e))
    · exact .inl e
    · exact .inr (.inr e)
  · intro e
    rw [Bool.or_eq_true] at e
    rcases e with e | e
    · exact getD_set_true (hl e)
    · have : i = F := by simpa using e
      subst this
      simp [hsz]
  · intro e
    rw [Bool.or_eq_false_iff] at e
    rcases h'.1 with h1 | h1 | h1
    · rw [h1] at e; exact absurd e.1 (by simp)
    · rw [h1] at e; exact absurd e.2 (by simp)
    · exact h1

/-- Operations that are taken as they come; C behind them. -/
def wpPre (P : Program) (ops : Array Oper) (S : World → Prop) (C : Act → World → Prop) : List Nat → Act → World → Prop
  | [], a, w => C a w
  | i :: rest, a, w => ∀ o, ops[i]? = some o → ∃ v, YieldsIf P ops S o v a ∧ wpPre P ops S C rest (a.put o.dst v) w
def preOk (md : Region.Mode) (ops : Array Oper) (F : Nat) (E : Array Bool → Bool) : List Nat → Array Bool → Bool
  | [], listed => E listed
  | i :: rest, listed => Region.free md ops listed i && (Region.ready md ops listed).contains i && (i != F) && ((ops[F]?).map fun o => o.after.any fun e => Region.binds md e && e.on == i) == some true && listed.getD F false == false && preOk md ops F E rest (listed.setIfInBounds i true)

theorem wpAnyK_of_pre (hs : Region.noSelect ops = true) (hQ : ∀ c a d v w, Q (.panic c) (a.put d v) w → Q (.panic c) a w) {E : Array Bool → Bool} {C : Act → World → Prop} {n : Nat}
    (hC : ∀ listed a w, E listed = true → listed.getD F false = false → S w → C a w → wpAnyK P md ops Q S F n listed a w) : ∀ (pre : List Nat) (listed : Array Bool) (a : Act) (w : World),
    preOk md ops F E pre listed = true → listed.getD F false = false → S w → wpPre P ops S C pre a w → wpAnyK P md ops Q S F (pre.length + n) listed a w
  | [], listed, a, w, hok, hl, hS, h => by rw [List.length_nil, Nat.zero_add]; exact hC listed a w hok hl hS h
  | i :: rest, listed, a, w, hok, _, hS, h => by
    simp only [preOk, Bool.and_eq_true] at hok
    obtain ⟨⟨⟨⟨⟨hf, hr⟩, hiF⟩, hw⟩, hlF⟩, hrest⟩ := hok
    have hr' : i ∈ Region.ready md ops listed := by simpa using hr
    obtain ⟨_, o, ho, _⟩ := mem_ready.1 hr'
    obtain ⟨v, hy, hK⟩ := h o ho
    have hlF' : listed.getD F false = false := by simpa using hlF
    have hiF' : i ≠ F := by simpa using hiF
    have hwait : Waits md ops F i := ⟨hiF', fun oF hoF => by
      rw [hoF] at hw
      simp only [Option.map_some, beq_iff_eq, Option.some.injEq, Array.any_eq_true', Bool.and_eq_true] at hw
      obtain ⟨e, he, hb, hon⟩ := hw
      exact ⟨e, he, hb, hon⟩⟩
    rw [List.length_cons, Nat.add_right_comm]
    refine wpAnyK_first ho (Region.noSelect_spec hs) (fun c a w => hQ c a _ _ w) hwait (rest.length + n) listed a w (Region.free_spec ho hf) hr' hlF' hy hS ?_
    exact wpAnyK_of_pre hs hQ hC rest _ _ w hrest (by rw [getD_set_ne false hiF']; exact hlF') hS hK

theorem pre_nil {C : Act → World → Prop} {a : Act} {w : World} (h : C a w) : wpPre P ops S C [] a w := h
theorem pre_take {C : Act → World → Prop} {i : Nat} {rest : List Nat} {a : Act} {w : World} {o : Oper} (ho : ops[i]? = some o) (hg : o.guard = none)
    (h : ∃ v, (∀ w', S w' → (execOp a.eval o).run P w' = .ok (.value v) w') ∧ wpPre P ops S C rest (a.put o.dst v) w) : wpPre P ops S C (i :: rest) a w := fun o' ho' => by
  rw [ho] at ho'
  obtain rfl := Option.some.inj ho'
  obtain ⟨v, hv, h⟩ := h
  exact ⟨v, .inl ⟨by simp [Region.wanted, hg], hv⟩, h⟩

/-- A region whose operations are taken as they come till two, i and j, come up together. -/
theorem wp_region_fork {id : Nat} {l : List Oper} {a : Act} {w : World} (pre : List Nat) (i j : Nat) (planI planJ : List (Nat × Bool)) (F : Nat) (S : World → Prop) (hm : P.follows .mixedOrders = true) (hs : Region.noSelect l.toArray = true)
    (hn : pre.length + (planI.length + 1) = l.length) (hn2 : planJ.length = planI.length)
    (hok : preOk .any l.toArray F (fun listed => (Region.ready .any l.toArray listed == [i, j]) && planOk .any l.toArray F planI (listed.setIfInBounds i true) && planOk .any l.toArray F planJ (listed.setIfInBounds j true)) pre (Array.replicate l.length false) = true)
    (hQ : ∀ c a d v w, Q (.panic c) (a.put d v) w → Q (.panic c) a w) (hS : S w.drew)
    (h : wpPre P l.toArray S (fun a w => wpPlan P l.toArray Q S F ((i, false) :: planI) false a w ∧ wpPlan P l.toArray Q S F ((j, false) :: planJ) false a w) pre a w.drew) : (Code.region id l.toArray true).wp P Q a w := by
  refine wp_region_any hm (wpAny_of_K (S := S) (F := F) _ _ _ _ ?_)
  have := wpAnyK_of_pre (md := .any) (P := P) (Q := Q) (S := S) (F := F) (n := planI.length + 1) hs hQ (E := fun listed => (Region.ready .any l.toArray listed == [i, j]) && planOk .any l.toArray F planI (listed.setIfInBounds i true) && planOk .any l.toArray F planJ (listed.setIfInBounds j true))
    (C := fun a w => wpPlan P l.toArray Q S F ((i, false) :: planI) false a w ∧ wpPlan P l.toArray Q S F ((j, false) :: planJ) false a w) (fun listed a w hE hl hSw hC => by
      simp only [Bool.and_eq_true, beq_iff_eq] at hE
      obtain ⟨⟨hr, hi⟩, hj⟩ := hE
      refine ⟨(fun e => by rw [hr] at e; cases e), fun x hx => ?_⟩
      have hx' := hx
      rw [hr] at hx'
      have hcases : x = i ∨ x = j := by simpa using hx'
      rcases hcases with rfl | rfl
      · exact loud_step hs hQ hx hi (fun e => by cases e) hC.1
      · rw [← hn2]
        exact loud_step hs hQ hx hj (fun e => by cases e) hC.2) pre (Array.replicate l.length false) a w.drew hok (by simp [Array.getD]) hS h
  rw [hn] at this
  simpa using this

variable {dst : Option Tmp} {ty : TypeId} {pos : String} {after : Array Edge}
/-- A whole array or struct is read. -/
theorem exec_load (ev : Operand → Value) (w : World) (x : Operand) (T : TypeId) (D : TypeDesc) (hu : P.underlying T = some D) (hd : D.isRow = true) (g off : Nat) (hx : ev x = .pointer (some ⟨g, off, none⟩))
    (xs : List Value) (hi : (P.info? T).map (·.size) = some xs.length) (hc : w.rangeAt g off xs) :
    (execOp ev { dst, op := .load T x, type := ty, pos, after, guard := none }).run P w = .ok (.value (.agg xs.toArray)) w := by
  unfold execOp
  simp only [hx, Sem.run_bind, run_loadAt_mid w g off T xs D hc hu hd hi, Result.andThen_ok, Sem.run_pure]
end
end Go.Proofs.YtcmponmgaikkfaaDoor
