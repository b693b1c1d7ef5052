/-
  Append where there is room, in a block that is known whole; a slice made with room. Over any program.
-/
import Derived.Test.YtcmponmgaikkfaaDoorApp
import Derived.Laws.MakeOwn
namespace Go.Proofs.YtcmponmgaikkfaaDoor
open Go.RowKit

section
variable {P : Program} {ops : Array Oper} {rest : List Oper} {a : Act} {w : World} {Q : Exit → Act → World → Prop} {dst : Option Tmp} {ty : TypeId} {pos : String} {after : Array Edge} {K : Act → World → Prop}
theorem run_append_room_rd (w : World) (t ty e : TypeId) (i : TypeInfo) (size : Nat) (ht : P.underlying t = some (.slice e)) (hi : P.info? e = some i) (hsize : i.size = size) (hsz : 0 < size)
    (g n cap : Nat) (cs : List Value) (hB : Blk w g e cs) (A : Option Addr) (m c : Nat) (news : List Value) (hl : news.length = m * size) (hrd : Rd w A news) (h1 : ∀ u ∈ news, u.oneCell' = true)
    (hroom : n + m ≤ cap) (hfit : n * size + news.length ≤ cs.length) :
    ∃ w', (Builtin.append_ #[t, t] ty #[.slice (some ⟨g, 0, none⟩) n cap, .slice A m c]).run P w = .ok (.slice (some ⟨g, 0, none⟩) (n + m) cap) w' ∧ Blk w' g e (lay cs (n * size) news) ∧ w.grownBy w' (some g) ∧ w'.heap.size = w.heap.size := by
  subst hsize
  by_cases h0 : news = []
  · subst h0
    have hm : m = 0 := by
      rcases Nat.eq_zero_or_pos m with h | h
      · exact h
      · have := Nat.mul_pos h hsz; simp at hl; omega
    subst hm
    have e0 : lay cs (n * i.size) [] = cs := by simp [lay]
    exact ⟨w, run_append_none w t ty e i ht hi _ A n cap c (by omega), by rw [e0]; exact hB, grown_refl _ _, rfl⟩
  · obtain ⟨b, o, rfl, hc⟩ := hrd h0
    have hr := run_append_room (P := P) w t ty e i ht hi g n cap cs.toArray hB ⟨b, o, none⟩ m c news hl (fun j u hu => by rw [add_none]; exact hc j u hu) h1 hroom (by simpa using hfit)
    exact ⟨_, hr, by simpa [lay] using blk_setRow hB (lay cs (n * i.size) news), grown_setRow _ _ _, by simp⟩
theorem law_append_room (s x : Operand) (t e : TypeId) (i : TypeInfo) (size : Nat) (ht : P.underlying t = some (.slice e)) (hi : P.info? e = some i) (hsize : i.size = size) (hsz : 0 < size)
    (g n cap : Nat) (cs : List Value) (hs : a.eval s = .slice (some ⟨g, 0, none⟩) n cap) (hB : Blk w g e cs) (A : Option Addr) (m c : Nat) (news : List Value) (hx : a.eval x = .slice A m c) (hl : news.length = m * size) (hrd : Rd w A news) (h1 : ∀ u ∈ news, u.oneCell' = true)
    (hroom : n + m ≤ cap) (hfit : n * size + news.length ≤ cs.length)
    (h : ∀ w', Blk w' g e (lay cs (n * size) news) → w.grownBy w' (some g) → w'.heap.size = w.heap.size → wpList P ops Q rest (a.put dst (.slice (some ⟨g, 0, none⟩) (n + m) cap)) w') :
    wpList P ops Q ({ dst, op := .call { callee := .builtin .append, args := #[s, x], argTypes := #[t, t] }, type := ty, pos, after, guard := none } :: rest) a w :=
  wpList_plain rfl fun K hK => by
    obtain ⟨w', hr, h2, h3, h4⟩ := run_append_room_rd (P := P) w t ty e i size ht hi hsize hsz g n cap cs hB A m c news hl hrd h1 hroom hfit
    unfold Oper.wp execOp
    simp only [resolve, invoke, builtin, Sem.run_bind, Sem.run_pure, Result.andThen_ok, List.map_toArray, List.map_cons, List.map_nil, hs, hx, hr]
    exact hK _ _ (h w' h2 h3 h4)
/-- A slice made with room, of whatever cells. -/
theorem law_make (x y : Operand) (t e : TypeId) (i : TypeInfo) (z : Value) (size bytes : Nat) (ht : P.underlying t = some (.slice e)) (hi : P.info? e = some i) (hz : i.zero = some z) (hsize : i.size = size) (hby : i.bytes = bytes) (l c : Nat)
    (hx : a.eval x = .int .i64 (l : Int)) (hy : a.eval y = .int .i64 (c : Int)) (hlc : l ≤ c) (hbytes : bytes * c ≤ 281474976710656) (h63 : c ≤ 9223372036854775807)
    (h : ∀ (g : Nat) w' (cs : List Value), Hid (g = w.heap.size) → cs.length = c * size → Blk w' g e cs → w.grownBy w' none → Hid (w'.heap.size = g + 1) → wpList P ops Q rest (a.put dst (.slice (some ⟨g, 0, none⟩) l c)) w') :
    wpList P ops Q ({ dst, op := .makeSlice t x y, type := ty, pos, after, guard := none } :: rest) a w :=
  wpList_plain rfl fun K hK => by
    have hb' : (i.bytes : Int) * (c : Int) ≤ 281474976710656 := by
      rw [hby]
      have h' : ((bytes * c : Nat) : Int) ≤ 281474976710656 := by omega
      rwa [Int.natCast_mul] at h'
    have hr := run_make (P := P) w t e i z ht hi hz .i64 .i64 (l : Int) (c : Int) (by omega) (by omega) hb' (by omega)
    simp only [Int.toNat_natCast, hsize] at hr
    unfold Oper.wp execOp
    simp only [hx, hy, Sem.run_bind, hr, Result.andThen_ok, Sem.run_pure, Oper.upon]
    have hB := Blk.new w e (madeCells z.cells (c * size)).toList
    rw [Array.toArray_toList] at hB
    exact hK _ _ (h w.heap.size _ (madeCells z.cells (c * size)).toList rfl (by rw [Array.length_toList, size_madeCells]) hB (World.grownBy_alloc w _ none) (show (w.alloc _).heap.size = _ by simp))
end
end Go.Proofs.YtcmponmgaikkfaaDoor
