/-
  A region that draws its order, walked in ONE order: operations that yield the same value in every world of a class are taken as they come; each other one comes up alone, and leaves a world of the class, unless all that is taken waits no more. Over any program.
-/
import Derived.Test.YtcmponmgaikkfaaDoorMem
import Derived.OrdersHeld
import Derived.Deep.RegionHeld3
namespace Go.Proofs.YtcmponmgaikkfaaDoor
open Go.RowKit

section
variable {P : Program} {ops : Array Oper} {Q : Exit → Act → World → Prop} {md : Region.Mode} {S : World → Prop} {F : Nat}

/-- Whatever order is picked from here on, and S holds behind every operation that is carried out till number F has been. -/
def wpAnyK (P : Program) (md : Region.Mode) (ops : Array Oper) (Q : Exit → Act → World → Prop) (S : World → Prop) (F : Nat) : Nat → Array Bool → Act → World → Prop
  | 0, listed, a, w => Region.ready md ops listed = [] ∧ Q .normal a w
  | fuel + 1, listed, a, w =>
    (Region.ready md ops listed = [] → Q .normal a w) ∧
    ∀ i ∈ Region.ready md ops listed, wpOp P ops Q i (fun a' w' => (i = F ∨ listed.getD F false = true ∨ S w') ∧ wpAnyK P md ops Q S F fuel (listed.setIfInBounds i true) a' w') a w

theorem wpAny_of_K : ∀ (fuel : Nat) (listed : Array Bool) (a : Act) (w : World), wpAnyK P md ops Q S F fuel listed a w → wpAny P md ops Q fuel listed a w
  | 0, _, _, _, h => h
  | fuel + 1, _, _, _, h => ⟨h.1, fun i hi => wpOp_mono (fun a' w' h' => wpAny_of_K fuel _ a' w' h'.2) (h.2 i hi)⟩

/-- Number F waits for number i. -/
def Waits (md : Region.Mode) (ops : Array Oper) (F i : Nat) : Prop := i ≠ F ∧ ∀ o, ops[F]? = some o → ∃ e ∈ o.after, Region.binds md e = true ∧ e.on = i

theorem wpAnyK_first {i : Nat} {oi : Oper} {v : Value} (hi : ops[i]? = some oi) (hsel : ∀ (j : Nat) (o : Oper) cs b, ops[j]? = some o → o.op ≠ .select cs b)
    (hQ : ∀ c a w, Q (.panic c) (a.put oi.dst v) w → Q (.panic c) a w) (hF : Waits md ops F i) :
    ∀ (fuel : Nat) (listed : Array Bool) (a : Act) (w : World),
      (∀ j oj, ops[j]? = some oj → j ≠ i → listed.getD j true = false → (∀ e ∈ oj.after, Region.binds md e = true → e.on ≠ i) → oi.apart ops oj = true) →
      i ∈ Region.ready md ops listed → listed.getD F false = false → YieldsIf P ops S oi v a → S w →
      wpAnyK P md ops Q S F fuel (listed.setIfInBounds i true) (a.put oi.dst v) w → wpAnyK P md ops Q S F (fuel + 1) listed a w := by
  intro fuel
  induction fuel with
  | zero =>
    intro listed a w _ hr _ hy hS H
    refine ⟨fun h => (by rw [h] at hr; cases hr), fun j hj => ?_⟩
    by_cases hji : j = i
    · subst hji; exact hy.wpOp hi hS ⟨.inr (.inr hS), H⟩
    · have := ready_mono hj hji
      rw [H.1] at this
      cases this
  | succ fuel ih =>
    intro listed a w hfree hr hlF hy hS H
    refine ⟨fun h => (by rw [h] at hr; cases hr), fun j hj => ?_⟩
    by_cases hji : j = i
    · subst hji; exact hy.wpOp hi hS ⟨.inr (.inr hS), H⟩
    · have h1 := H.2 j (ready_mono hj hji)
      obtain ⟨hjun, oj, hoj, hall⟩ := mem_ready.1 hj
      have hnot : ∀ e ∈ oj.after, Region.binds md e = true → e.on ≠ i := fun e he hb heq => by
        have h1 := hall e he hb
        have h0 := (mem_ready.1 hr).1
        rw [heq] at h1
        rcases Nat.lt_or_ge i listed.size with h' | h'
        · simp [h'] at h0 h1; rw [h0] at h1; cases h1
        · simp [Array.getElem?_eq_none h'] at h1
      have hjF : j ≠ F := by
        rintro rfl
        obtain ⟨e, he, hb, heq⟩ := hF.2 oj hoj
        exact hnot e he hb heq
      have hlF1 : (listed.setIfInBounds i true).getD F false = false := by rw [getD_set_ne false hF.1]; exact hlF
      have hlF2 : (listed.setIfInBounds j true).getD F false = false := by rw [getD_set_ne false hjF]; exact hlF
      have h2 := wpOp_putIf hoj (hfree j oj hoj hji hjun hnot) (fun cs b => hsel i oi cs b hi) (fun cs b => hsel j oj cs b hoj) hQ hy h1
      have hfree' : ∀ k ok, ops[k]? = some ok → k ≠ i → (listed.setIfInBounds j true).getD k true = false →
          (∀ e ∈ ok.after, Region.binds md e = true → e.on ≠ i) → oi.apart ops ok = true := fun k ok hk hki hun hno => by
        refine hfree k ok hk hki ?_ hno
        by_cases hjk : j = k
        · subst hjk; exact hjun
        · rw [getD_set_ne true hjk] at hun; exact hun
      refine wpOp_mono (fun a' w' h3 => ?_) h2
      have hS' : S w' := by
        rcases h3.2.1 with e | e | e
        · exact absurd e hjF
        · rw [hlF1] at e; cases e
        · exact e
      refine ⟨.inr (.inr hS'), ih (listed.setIfInBounds j true) a' w' hfree' (ready_mono hr (Ne.symm hji)) hlF2 h3.1 hS' ?_⟩
      rw [Array.setIfInBounds_comm _ _ hji]
      exact h3.2.2

/-! ### The walk in one order -/
/-- The plan: each operation's number, and whether it is taken as it comes. -/
def wpPlan (P : Program) (ops : Array Oper) (Q : Exit → Act → World → Prop) (S : World → Prop) (F : Nat) : List (Nat × Bool) → Bool → Act → World → Prop
  | [], _, a, w => Q .normal a w
  | (i, true) :: rest, late, a, w => ∀ o, ops[i]? = some o → ∃ v, YieldsIf P ops S o v a ∧ wpPlan P ops Q S F rest late (a.put o.dst v) w
  | (i, false) :: rest, late, a, w => ∀ o, ops[i]? = some o → Region.wanted o (yielded ops a.tmps) = true ∧ o.wp P a w (fun a' w' => (late = true ∨ i = F ∨ S w') ∧ wpPlan P ops Q S F rest (late || i == F) a' w') Q

/-- Is the plan one of this region? -/
def planOk (md : Region.Mode) (ops : Array Oper) (F : Nat) : List (Nat × Bool) → Array Bool → Bool
  | [], listed => Region.ready md ops listed == []
  | (i, true) :: rest, listed => Region.free md ops listed i && (Region.ready md ops listed).contains i && (i != F) && ((ops[F]?).map fun o => o.after.any fun e => Region.binds md e && e.on == i) == some true && listed.getD F false == false && planOk md ops F rest (listed.setIfInBounds i true)
  | (i, false) :: rest, listed => (Region.ready md ops listed == [i]) && planOk md ops F rest (listed.setIfInBounds i true)

theorem wpAnyK_of_plan (hs : Region.noSelect ops = true) (hQ : ∀ c a d v w, Q (.panic c) (a.put d v) w → Q (.panic c) a w) : ∀ (plan : List (Nat × Bool)) (listed : Array Bool) (late : Bool) (a : Act) (w : World),
    planOk md ops F plan listed = true → (late = true → listed.getD F false = true) → (late = false → S w) → wpPlan P ops Q S F plan late a w → wpAnyK P md ops Q S F plan.length listed a w
  | [], listed, late, a, w, hok, _, _, h => by
    have hr : Region.ready md ops listed = [] := by simpa [planOk] using hok
    exact ⟨hr, h⟩
  | (i, true) :: rest, listed, late, a, w, hok, hl, hS, h => by
    simp only [planOk, Bool.and_eq_true] at hok
    obtain ⟨⟨⟨⟨⟨hf, hr⟩, hiF⟩, hw⟩, hlF⟩, hrest⟩ := hok
    have hr' : i ∈ Region.ready md ops listed := by simpa using hr
    obtain ⟨_, o, ho, _⟩ := mem_ready.1 hr'
    obtain ⟨v, hy, hK⟩ := h o ho
    have hlF' : listed.getD F false = false := by simpa using hlF
    have hlate : late = false := by
      cases late with
      | false => rfl
      | true => rw [hl rfl] at hlF'; cases hlF'
    have hiF' : i ≠ F := by simpa using hiF
    have hwait : Waits md ops F i := ⟨hiF', fun oF hoF => by
      rw [hoF] at hw
      simp only [Option.map_some, beq_iff_eq, Option.some.injEq, Array.any_eq_true', Bool.and_eq_true] at hw
      obtain ⟨e, he, hb, hon⟩ := hw
      exact ⟨e, he, hb, hon⟩⟩
    refine wpAnyK_first ho (Region.noSelect_spec hs) (fun c a w => hQ c a _ _ w) hwait rest.length listed a w (Region.free_spec ho hf) hr' hlF' hy (hS hlate) ?_
    exact wpAnyK_of_plan hs hQ rest _ late _ w hrest (fun e => by rw [hlate] at e; cases e) hS hK
  | (i, false) :: rest, listed, late, a, w, hok, hl, hS, h => by
    simp only [planOk, Bool.and_eq_true, beq_iff_eq] at hok
    obtain ⟨hr, hrest⟩ := hok
    have hr' : i ∈ Region.ready md ops listed := by rw [hr]; exact List.mem_singleton.2 rfl
    obtain ⟨hun, o, ho, _⟩ := mem_ready.1 hr'
    have hsz : i < listed.size := by
      rcases Nat.lt_or_ge i listed.size with h' | h'
      · exact h'
      · simp [Array.getElem?_eq_none h'] at hun
    refine ⟨(fun e => by rw [hr] at e; cases e), fun j hj => ?_⟩
    rw [hr] at hj
    obtain rfl := List.mem_singleton.1 hj
    obtain ⟨hwant, hwp⟩ := h o ho
    unfold wpOp
    simp only [ho, hwant, if_true]
    refine .inl (Oper.wp_mono (fun a' w' h' => ?_) hwp)
    refine ⟨?_, wpAnyK_of_plan hs hQ rest _ (late || j == F) a' w' hrest ?_ ?_ h'.2⟩
    · rcases h'.1 with e | e | e
      · exact .inr (.inl (hl e))
      · exact .inl e
      · exact .inr (.inr e)
    · intro e
      rw [Bool.or_eq_true] at e
      rcases e with e | e
      · exact getD_set_true (hl e)
      · have : j = F := by simpa using e
        subst this
        simp [hsz]
    · intro e
      rw [Bool.or_eq_false_iff] at e
      rcases h'.1 with h1 | h1 | h1
      · rw [h1] at e; exact absurd e.1 (by simp)
      · rw [h1] at e; exact absurd e.2 (by simp)
      · exact h1

theorem plan_nil {late : Bool} {a : Act} {w : World} (h : Q .normal a w) : wpPlan P ops Q S F [] late a w := h
/-- An operation that is taken as it comes. -/
theorem plan_take {i : Nat} {rest : List (Nat × Bool)} {late : Bool} {a : Act} {w : World} {o : Oper} (ho : ops[i]? = some o) (hg : o.guard = none)
    (h : ∃ v, (∀ w', S w' → (execOp a.eval o).run P w' = .ok (.value v) w') ∧ wpPlan P ops Q S F rest late (a.put o.dst v) w) : wpPlan P ops Q S F ((i, true) :: rest) late a w := fun o' ho' => by
  rw [ho] at ho'
  obtain rfl := Option.some.inj ho'
  obtain ⟨v, hv, h⟩ := h
  exact ⟨v, .inl ⟨by simp [Region.wanted, hg], hv⟩, h⟩
/-- An operation that comes up alone. -/
theorem plan_loud {i : Nat} {rest : List (Nat × Bool)} {late : Bool} {a : Act} {w : World} {o : Oper} (ho : ops[i]? = some o) (hg : o.guard = none)
    (h : o.wp P a w (fun a' w' => (late = true ∨ i = F ∨ S w') ∧ wpPlan P ops Q S F rest (late || i == F) a' w') Q) : wpPlan P ops Q S F ((i, false) :: rest) late a w := fun o' ho' => by
  rw [ho] at ho'
  obtain rfl := Option.some.inj ho'
  exact ⟨by simp [Region.wanted, hg], h⟩
/-- A region that draws its order, by a plan. -/
theorem wp_region_plan {id : Nat} {l : List Oper} {a : Act} {w : World} (plan : List (Nat × Bool)) (F : Nat) (S : World → Prop) (hm : P.follows .mixedOrders = true) (hs : Region.noSelect l.toArray = true) (hn : plan.length = l.length)
    (hok : planOk .any l.toArray F plan (Array.replicate l.length false) = true) (hQ : ∀ c a d v w, Q (.panic c) (a.put d v) w → Q (.panic c) a w) (hS : S w.drew)
    (h : wpPlan P l.toArray Q S F plan false a w.drew) : (Code.region id l.toArray true).wp P Q a w := by
  refine wp_region_any hm (wpAny_of_K (S := S) (F := F) _ _ _ _ ?_)
  have := wpAnyK_of_plan (md := .any) hs hQ plan (Array.replicate l.length false) false a w.drew hok (fun e => by cases e) (fun _ => hS) h
  rw [hn] at this
  simpa using this
end
end Go.Proofs.YtcmponmgaikkfaaDoor
