/-
  proof.name, proof.number: what they lay down.
-/
import Derived.Test.YtcmponmgaikkfaaDoorOct
import Derived.Laws.IdiomStrings
namespace Go.Proofs.YtcmponmgaikkfaaDoor
open Go.RowKit

section
variable {P : Program} {ops : Array Oper} {rest : List Oper} {a : Act} {w : World} {Q : Exit → Act → World → Prop} {dst : Option Tmp} {ty : TypeId} {pos : String} {after : Array Edge}
/-- '[]byte(s)': a new row. -/
theorem law_bytes (x : Operand) (src t e : TypeId) (s : ByteArray) (hs : P.underlying src = some .string) (hd : P.underlying t = some (.slice e)) (he : P.underlying e = some (.int .u8)) (hx : a.eval x = .string s) (hlen : s.size ≤ maxLen)
    (h : ∀ c w', s.size ≤ c → c ≤ maxLen → w.grownBy w' none → Rd w' (some ⟨w.heap.size, 0, none⟩) (bvs s.data.toList) → wpList P ops Q rest (a.put dst (.slice (some ⟨w.heap.size, 0, none⟩) s.size c)) w') :
    wpList P ops Q ({ dst, op := .convert src t x, type := ty, pos, after, guard := none } :: rest) a w :=
  wpList_plain rfl fun K hK => by
    have hr := run_bytes_of_string w src t e s hs hd he
    unfold Oper.wp execOp
    simp only [hx, Sem.run_bind, hr, Result.andThen_ok, Sem.run_pure, Oper.upon]
    refine hK _ _ (h _ _ (grownCap_ge w s.size 0 e) (grownCap_le_maxLen w s.size 0 e hlen) (grown_alloc (grown_drew (grown_refl _ _)) _) ?_)
    intro _
    refine ⟨_, _, rfl, fun j u hu => ?_⟩
    have hj : j < s.data.toList.length := by
      have := (List.getElem?_eq_some_iff.1 hu).1
      simpa [bvs] using this
    rw [cell_of_row _ w.heap.size (0 + j) (bytesRow s (grownCap w s.size 0 e)) e _ (heap_alloc_new w.drew _), Nat.zero_add, bytesRow, Array.getElem?_append_left (by simpa using hj), ← hu]
    simp [bvs]
    rfl
end

set_option maxRecDepth 100000 in
theorem number_any (w : World) (p base n : Nat) (v0 : Value) (x : Int) (hW : Wr w p base v0 n) (hbase : base ≤ w.heap.size) (A : Option Addr) (cap : Nat) (ds : List (List UInt8)) (hA : Digs w A ds) (hfA : ds.flatMap bvs ≠ [] → Far p v0 A)
    (hcm : ds.length ≤ maxLen) (hn : n + 8 + 32 * ds.length < 70368744177664) :
    Calls Tryd.prog 19 #[.pointer (some ⟨p, 0, none⟩), .int .i64 x, .slice A ds.length cap] w fun e w' => e = .returned (.tuple #[]) ∧ ∃ v', Wr w' p base v' (n + 8 + 32 * ds.length) ∧ Step w p v0 w' v' := by
  go_enter Tryd.func19, Tryd.ntmps19
  go_wp2_with (first
    | (go_at_call 32; refine (put64_any _ p base n v0 _ hW hbase (by omega)).mono ?_; rintro e w1 ⟨rfl, v1, hW1, hs1⟩)
    | (go_at_call 22; refine (digests_any _ p base (n + 8) v1 hW1 (Nat.le_trans hbase hs1.size) A cap ds (hA.step hfA hs1) (fun hne => (hfA hne).row (hA.2.blk_lt hne) hs1) hcm hn).mono ?_; rintro e w2 ⟨rfl, v2, hW2, hs2⟩))
  exact bodyPost_end (results_none rfl _ _ _) rfl ⟨rfl, v2, hW2, hs1.trans hs2⟩

set_option maxRecDepth 100000 in
theorem name_any (w : World) (p base n : Nat) (v0 : Value) (s : ByteArray) (hW : Wr w p base v0 n) (hbase : base ≤ w.heap.size) (hs : s.size ≤ 64) (hn : n + 65 < 70368744177664) :
    Calls Tryd.prog 18 #[.pointer (some ⟨p, 0, none⟩), .string s] w fun e w' => e = .returned (.tuple #[]) ∧ ∃ v', Wr w' p base v' (n + 1 + s.size) ∧ Step w p v0 w' v' := by
  have Hz := Lib.hid (show s.size = s.data.toList.length by rw [Array.length_toList]; rfl)
  go_enter Tryd.func18, Tryd.ntmps18
  go_wp2_with (first
    | (go_at_call 17; refine (put8_any _ p base n v0 _ hW hbase (by omega)).mono ?_; rintro e w1 ⟨rfl, v1, hW1, hs1⟩)
    | ((with_reducible refine law_bytes (.tmp 10) 9 27 5 s Tryd.underlying9 Tryd.underlying27 Tryd.underlying5 ?_ ?_ ?_); (rfl); (simp only [maxLen]; omega); intro c w2 hc1 hc2 hg2 hrd; have hW2 := hW1.grown_none hg2; have hs2 := hs1.grown_none hg2; have hsl : SlB w2 (.slice (some ⟨w1.heap.size, 0, none⟩) s.size c) s.data.toList := ⟨_, c, by rw [← Hz.out], by rw [← Hz.out]; exact hc1, hc2, hrd⟩)
    | (go_at_call 31; refine (raw_any _ p base (n + 1) v1 (hW2.alloc _) (by have := hs2.size; simp; omega) (some ⟨w2.heap.size, 0, none⟩) 1 [.slice (some ⟨w1.heap.size, 0, none⟩) s.size c] [s.data.toList] (rd_alloc w2 _ _) (far_new hW2 (by intro b o e; injection e with e; injection e with e1; omega)) (by simp) (by decide) (parts_one (slb_alloc hsl _)) (by intro i Ai ni ci hi; obtain rfl : Ai = some ⟨w1.heap.size, 0, none⟩ := (by cases i with | zero => (simp at hi; exact hi.1.symm) | succ i => simp at hi); exact far_new hW1 (by intro b o e; injection e with e; injection e with e1; omega)) (by rw [List.flatten_cons, List.flatten_nil, List.append_nil, ← Hz.out]; omega)).mono ?_; rintro e w3 ⟨rfl, v3, hW3, hs3⟩))
  refine bodyPost_end (results_none rfl _ _ _) rfl ⟨rfl, v3, ?_, (hs2.alloc _).trans hs3⟩
  rw [List.flatten_cons, List.flatten_nil, List.append_nil, ← Hz.out] at hW3
  exact hW3
end Go.Proofs.YtcmponmgaikkfaaDoor
