/-
  docketlaw17.ProofJoined, for every input of bulk at most 1048576, the table of SHA-256's round constants as the program's text lays it: the law answers true, and each argument reads behind the call as it read before.
-/
import Derived.Test.YtcmponmgaikkfaaDoorCards
import Derived.Test.YtcmponmgaikkfaaDoorTie
import Derived.Test.YtcmponmgaikkfaaDoorLaw
import Derived.Test.YtcmponmgaikkfaaDoorOpen
import Derived.WalkKit
import Derived.ProofKit
import Derived.OpenShut
import Derived.Carry
import Derived.Deep.DeepHandedRow
import Derived.Lib.LaidTab
namespace Go.Proofs.YtcmponmgaikkfaaDoor.joined
open Go.ChangeShapes Go.WideShapes Go.ChangeAt Go.RowKit

theorem own : ownKnob Tryd.prog.godebug = none := by kernel_rfl
theorem laidOut : laidOutB Tryd.prog = true := by kernel_rfl
theorem gTab : Tryd.prog.globalNamed "docket/digest.round" = some 0 := by kernel_rfl
theorem gTabType : (Tryd.prog.globals[0]?).map (·.type) = some 89 := by kernel_rfl
theorem cellsTab : Tryd.prog.cellsOf 89 = 64 := by kernel_rfl
theorem cellsU32 : Tryd.prog.cellsOf 55 = 1 := by kernel_rfl

def zs : List Int := kts.map Int.ofNat
theorem zs_kt : ∀ t, t < 64 → zs.getD t 0 = ((kt t).toNat : Int) := by decide +kernel
/-- What the row's list gives: the table's cells. -/
theorem table {W : World} (h : laidMetH Tryd.prog Rows.proofJoinedUptoRow.laid W) : Tab W := by
  have ht : Lib.TabIs Tryd.prog W "docket/digest.round" .u32 zs :=
    Lib.tabIs_of_head (rest := []) gTab gTabType Tryd.underlying89 Tryd.underlying55 cellsU32 cellsTab h
  intro t h
  have := ht.cell gTab t h
  rw [zs_kt t h] at this
  exact this

set_option maxRecDepth 100000 in
theorem contract (H : Type) (enc : TypeId × Value → H) (W : World) (base : Nat) (args : Array Value) (ds gs : List (DataW H)) (before : List MemPlace)
    (hval : ∀ (j : Nat) t v, Tryd.f3.params[j]? = some t → args[j]? = some v → Value.okWide Tryd.prog W .any base t v)
    (hW : DataW.Whole enc Tryd.prog Tryd.f3.params.toList Rows.proofJoinedSpec.vars false W args.toList ds gs before) (hk : Rows.uptoSmall H (ds ++ gs) = true) (hL : laidMetH Tryd.prog Rows.proofJoinedUptoRow.laid W) :
    Calls Tryd.prog 3 args W fun e W' => ∃ v, e = .returned v ∧ Rows.proofJoinedSpec.post enc Tryd.prog Tryd.f3 false true false false W args v W' := by
  have hW' := hW
  obtain ⟨p, q, hA0, hV, rfl, hfz, hnd⟩ := hW
  have hA : DataW.TrodAll enc Tryd.prog W 0 (fun _ => true) true Tryd.f3.params.toList args.toList ds p := hA0
  rw [Tryd.params3] at hA hval
  obtain ⟨v0, vs0, d0, ds0, p0, q0, hargs, rfl, rfl, h0, r0⟩ := trodAll_cons hA
  obtain ⟨v1, vs1, d1, ds1, p1, q1, rfl, rfl, rfl, h1, r1⟩ := trodAll_cons r0
  obtain ⟨v2, vs2, d2, ds2, p2, q2, rfl, rfl, rfl, h2, r2⟩ := trodAll_cons r1
  obtain ⟨v3, vs3, d3, ds3, p3, q3, rfl, rfl, rfl, h3, r3⟩ := trodAll_cons r2
  obtain ⟨v4, vs4, d4, ds4, p4, q4, rfl, rfl, rfl, h4, r4⟩ := trodAll_cons r3
  obtain ⟨v5, vs5, d5, ds5, p5, q5, rfl, rfl, rfl, h5, r5⟩ := trodAll_cons r4
  obtain ⟨v6, vs6, d6, ds6, p6, q6, rfl, rfl, rfl, h6, r6⟩ := trodAll_cons r5
  obtain ⟨rfl, rfl, rfl⟩ := trodAll_nil r6
  obtain rfl : args = #[v0, v1, v2, v3, v4, v5, v6] := by cases args; simp_all
  obtain ⟨rfl, rfl⟩ := trodVars_none hV
  obtain ⟨width, rfl, rfl, rfl, w0⟩ := open_int Tryd.underlying3 (hval 0 3 v0 rfl rfl) h0
  obtain ⟨s, rfl, rfl, rfl, ws⟩ := Go.ChangeMaps.open_string Tryd.underlying9 (hval 1 9 v1 rfl rfl) h1
  obtain ⟨first, rfl, rfl, rfl, w2⟩ := open_int Tryd.underlying3 (hval 2 3 v2 rfl rfl) h2
  obtain ⟨att, rfl, rfl, rfl, w6⟩ := open_int Tryd.underlying3 (hval 6 3 v6 rfl rfl) h6
  have hd := hval 3 23 v3 rfl rfl
  simp only [Value.okWide, Tryd.underlying23] at hd
  obtain ⟨cs3, rfl, _, _⟩ := hd
  obtain ⟨A4, n4, c4, rfl⟩ := okWide_slice Tryd.underlying24 (hval 4 24 v4 rfl rfl)
  obtain ⟨A5, n5, c5, rfl⟩ := okWide_slice Tryd.underlying25 (hval 5 25 v5 rfl rfl)
  have h3k := h3
  have h4k := h4
  have h5k := h5
  obtain ⟨f3, hf3⟩ := h3
  obtain ⟨f4, hf4⟩ := h4
  obtain ⟨f5, hf5⟩ := h5
  obtain ⟨bf, hbf, hcs⟩ := open_digest hf3
  obtain ⟨A, n, c, vs, ls, e4, hnc, hcm, hlv, hRA, hP, hbl⟩ := open_events hf4
  obtain ⟨B, m, d, css, qs, e5, hmd, hdm, hlc, hRB, hQ, hbw⟩ := open_incs hf5
  obtain rfl : cs3 = (bvs bf).toArray := by
    have : cs3.toList = bvs bf := hcs
    rw [← this]
  obtain ⟨rfl, rfl, rfl⟩ : A4 = A ∧ n4 = n ∧ c4 = c := by
    have : [Value.slice A4 n4 c4] = [Value.slice A n c] := e4
    injection this with this
    injection this with a b c
    exact ⟨a, b, c⟩
  obtain ⟨rfl, rfl, rfl⟩ : A5 = B ∧ n5 = m ∧ c5 = d := by
    have : [Value.slice A5 n5 c5] = [Value.slice B m d] := e5
    injection this with this
    injection this with a b c
    exact ⟨a, b, c⟩
  have hk' : Rows.uptoBulkAll ([.lit (.int .i64 width), .lit (.string s.data.toList), .lit (.int .i64 first), d3, d4, d5, .lit (.int .i64 att)] ++ []) ≤ 1048576 := of_decide_eq_true hk
  rw [List.append_nil] at hk'
  have b1 := Nat.le_trans (bulks.part_le (show (DataW.lit (.string s.data.toList) : DataW H) ∈ [.lit (.int .i64 width), .lit (.string s.data.toList), .lit (.int .i64 first), d3, d4, d5, .lit (.int .i64 att)] by simp)) hk'
  have b4 := Nat.le_trans (bulks.part_le (show d4 ∈ [.lit (.int .i64 width), .lit (.string s.data.toList), .lit (.int .i64 first), d3, d4, d5, .lit (.int .i64 att)] by simp)) hk'
  have b5 := Nat.le_trans (bulks.part_le (show d5 ∈ [.lit (.int .i64 width), .lit (.string s.data.toList), .lit (.int .i64 first), d3, d4, d5, .lit (.int .i64 att)] by simp)) hk'
  have hss : s.size < 4294967296 := by
    simp only [Rows.uptoBulk] at b1
    have : s.data.toList.length = s.size := Array.length_toList
    omega
  have hb4 : ∀ l ∈ ls, l.length < 4294967296 := fun l hl => by
    have h := hbl l hl
    simp only at h
    omega
  have hb5 : waysLen qs n5 < 4294967296 := by
    simp only at hbw
    omega
  clear hA0 hk hk' hval hf3 hf4 hf5 e4 e5
  simp only [List.append_nil, List.nil_append] at hW'
  have hlt3 : ∀ x ∈ p3, x.block < W.heap.size := fun x hx => by simpa using hW'.lt x (by simp [hx])
  have hlt4 : ∀ x ∈ p4, x.block < W.heap.size := fun x hx => by simpa using hW'.lt x (by simp [hx])
  have hlt5 : ∀ x ∈ p5, x.block < W.heap.size := fun x hx => by simpa using hW'.lt x (by simp [hx])
  refine (law_any W (table hL) width att s hss first bf hbf n4 n5 A4 c4 vs ls A5 c5 css qs hRA hP hRB hQ (Lib.hid hlv) (Lib.hid hlc) hnc hcm hmd hdm hb4 hb5).mono fun e W' ⟨he, hB⟩ => ?_
  subst he
  have hres := trodAll_cons_mk (shut_bool (enc := enc) (P := Tryd.prog) (w := W') (base := W.heap.size) (spare := fun _ => false) (held := false) Tryd.underlying4 true) trodAll_mk0
  have hargs := trodAll_cons_mk (shut_int (enc := enc) (P := Tryd.prog) (w := W') (base := 0) (spare := fun b => decide (b < W.heap.size)) (held := true) Tryd.underlying3 w0) (trodAll_cons_mk (Go.ChangeMaps.shut_string Tryd.underlying9 ws) (trodAll_cons_mk (shut_int Tryd.underlying3 w2)
      (trodAll_cons_mk (Below.trod laidOut (by kernel_rfl) (of_decide_eq_true (by kernel_rfl)) h3k hB hlt3) (trodAll_cons_mk (Below.trod laidOut (by kernel_rfl) (of_decide_eq_true (by kernel_rfl)) h4k hB hlt4)
        (trodAll_cons_mk (Below.trod laidOut (by kernel_rfl) (of_decide_eq_true (by kernel_rfl)) h5k hB hlt5) (trodAll_cons_mk (shut_int Tryd.underlying3 w6) trodAll_mk0))))))
  exact ⟨_, rfl, _, _, _, _, _, [], hW', hres, hargs, rfl, hB.frame _, fun h => by cases h⟩

/-- The witness: nothing of anything. -/
noncomputable def args0 : Array Value := #[.int .i64 0, .string ByteArray.empty, .int .i64 0, .agg (List.replicate 32 (.int .u8 0)).toArray, .slice none 0 0, .slice none 0 0, .int .i64 0]
noncomputable def laidWorld (os : Os) : World :=
  { World.holding Tryd.prog os ⟨#[], #[], []⟩ with heap := (World.holding Tryd.prog os ⟨#[], #[], []⟩).heap.modify 0 fun
      | .cells _ t frozen => .cells (zs.map fun z => Value.int .u32 z).toArray t frozen
      | o => o }
theorem laid_met (os : Os) : laidMet Tryd.prog Rows.proofJoinedUptoRow.laid ((laidWorld os).forCall (fun _ _ => 0) ⟨#[], args0, []⟩).memory :=
  laidMet_of_run' 8 (by kernel_rfl) (by kernel_rfl)
theorem reads (os : Os) {H : Type} (enc : TypeId × Value → H) : ∃ places, DataW.whole enc Tryd.prog ((laidWorld os).forCall (fun _ _ => 0) ⟨#[], args0, []⟩).memory Tryd.f3.params.toList Rows.proofJoinedSpec.vars false args0.toList 8 = some ([.lit (.int .i64 0), .lit (.string []), .lit (.int .i64 0), .agg (List.replicate 32 (.lit (.int .u8 0))), .nil, .nil, .lit (.int .i64 0)], [], places) :=
  ⟨[], by kernel_rfl⟩

set_option maxRecDepth 100000 in
theorem lifted (os : Os) (started : os.Started) (H : Type) (enc : TypeId × Value → H) (F : Stop.Interp) :
    ReturnsInHanded {} Tryd.checked os 3 .any ((Rows.OpenSpec.upto Rows.proofJoinedSpec).preRow enc Tryd.prog Tryd.f3 Rows.proofJoinedUptoRow.domain false Rows.proofJoinedUptoRow.laid) (((Rows.OpenSpec.upto Rows.proofJoinedSpec).at F).post enc Tryd.prog Tryd.f3 false true false false) := by
  obtain ⟨places, hx⟩ := reads os enc
  refine returnsInHanded_of_row (C := Tryd.checked) (s := Rows.OpenSpec.upto Rows.proofJoinedSpec) own started (by kernel_rfl) Tryd.func3
    (witness_row_at (enc := enc) (C := Tryd.checked) false (laidWorld os) args0 rfl (by kernel_rfl) (by kernel_rfl) (by kernel_rfl)
      (OpenSpec.preRow_of_cond 8 hx (by kernel_rfl) (fun k hk => by cases hk; kernel_rfl) (by kernel_rfl) (laid_met os))) ?_
  intro W base args ds gs before hval hW _ hcond _ hL _ _
  exact contract H enc W base args ds gs before hval hW (hcond _ rfl) hL

theorem saidUpto : Rows.ProofJoinedUptoSaid :=
  OpenClaim.holds_of_cond 3 Tryd.f3 rfl rfl rfl rfl rfl rfl rfl ⟨rfl, rfl, rfl, rfl, rfl⟩ rfl rfl rfl rfl rfl (by kernel_rfl) Tryd.func3 (by kernel_rfl)
    (of_decide_eq_true (by kernel_rfl)) (by unfold Func.isWrapper; first | (rw [if_pos (by decide +kernel)]; kernel_rfl) | (rw [if_neg (by decide +kernel)]; exact ⟨rfl, rfl⟩))
    (fun os started H enc _ F => by rw [OpenClaim.pre_eq_preRow]; exact lifted os started H enc F)

theorem plain (f : FuncId) (fn : Func) (hf : Tryd.pinned.checked.prog.funcNamed "docket/docketlaw17.ProofJoined" = some f) (hfn : Tryd.pinned.checked.prog.funcs[f]? = some fn) :
    false = Tryd.pinned.checked.prog.looks [] ∧ ∀ (j : Nat) t, fn.params[j]? = some t → Tryd.pinned.checked.prog.wantsStandIn t = false := by
  obtain rfl : f = 3 := Option.some.inj ((show Tryd.prog.funcNamed "docket/docketlaw17.ProofJoined" = some 3 by kernel_rfl).symm.trans hf) |>.symm
  obtain rfl : fn = Tryd.f3 := (Option.some.inj (Tryd.func3.symm.trans hfn)).symm
  refine ⟨by kernel_rfl, fun j t ht => ?_⟩
  rw [Tryd.params3] at ht
  have hm := Array.mem_of_getElem? ht
  have hall : ∀ u ∈ #[3, 9, 3, 23, 24, 25, 3], Tryd.prog.wantsStandIn u = false := by
    intro u hu
    simp only [List.mem_toArray, List.mem_cons, List.not_mem_nil, or_false] at hu
    rcases hu with rfl | rfl | rfl | rfl | rfl | rfl | rfl <;> kernel_rfl
  exact hall t hm

/-- The second form's card. -/
theorem cardUpto : Rows.ProofJoinedUptoCardSaid :=
  Claim7.holds_tied_plain_at .later [] _ _ _ _ saidUpto (fun _ h => by cases h) (by kernel_rfl) (fun _ h => by cases h) proofJoinedUpto_row_tie rfl ⟨rfl, rfl⟩ (by kernel_rfl) rfl plain (by kernel_rfl)
end Go.Proofs.YtcmponmgaikkfaaDoor.joined
