/-
  The hasher's Sum: the sum of what was taken.
-/
import Derived.Test.YtcmponmgaikkfaaDoorWrite
namespace Go.Proofs.YtcmponmgaikkfaaDoor
open Go.RowKit

def s8Zero : S8 := ⟨0, 0, 0, 0, 0, 0, 0, 0⟩
theorem info_hasher : (Tryd.prog.info? 86).map (fun i => (i.zero, i.size, i.bytes)) = some (some (.agg (hcells s8Zero (List.replicate 64 0) 0).toArray), 73, 104) := by kernel_rfl
theorem info_end : (Tryd.prog.info? 87).map (fun i => (i.zero, i.size, i.bytes)) = some (some (.agg (List.replicate 128 (.int .u8 0)).toArray), 128, 128) := by kernel_rfl
theorem oneCell_hcells (s : S8) (rest : List UInt8) (n : Nat) : ∀ u ∈ hcells s rest n, u.oneCell' = true := by
  intro u hu
  rcases List.mem_append.1 hu with h | h
  · exact oneCell_sv s u h
  · rcases List.mem_append.1 h with h | h
    · exact oneCell_bvs rest u h
    · rw [List.mem_singleton.1 h]; rfl

/-- The text's end, its first i bytes of the count laid down. -/
def endL (n i : Nat) : List UInt8 := 128 :: (List.replicate (padZeros n) 0 ++ ((be64 (8 * n)).take i ++ List.replicate (127 - padZeros n - i) 0))
theorem padZeros_lt (n : Nat) : padZeros n < 64 := by unfold padZeros; omega
theorem be64_length (n : Nat) : (be64 n).length = 8 := by simp [be64]
theorem endL_length (n i : Nat) (hi : i ≤ 8) : (endL n i).length = 128 := by
  have := padZeros_lt n
  simp [endL, be64_length]; omega
theorem endL_zero (n : Nat) : bvs (endL n 0) = (List.replicate 128 (Value.int .u8 0)).set 0 (.int .u8 128) := by
  have := padZeros_lt n
  have e : List.replicate (padZeros n) (0 : UInt8) ++ List.replicate (127 - padZeros n) 0 = List.replicate 127 0 := by
    rw [List.replicate_append_replicate]; congr 1; omega
  simp only [endL, List.take_zero, List.nil_append, Nat.sub_zero, e]
  rfl
theorem endL_set (n i : Nat) (hi : i < 8) : (bvs (endL n i)).set (1 + padZeros n + i) (bv (UInt8.ofNat (8 * n / 2 ^ (56 - 8 * i)))) = bvs (endL n (i + 1)) := by
  have hz := padZeros_lt n
  have hb : (be64 (8 * n))[i]? = some (UInt8.ofNat (8 * n / 2 ^ (56 - 8 * i))) := by simp [be64, hi]
  unfold bvs
  rw [← List.map_set]
  congr 1
  unfold endL
  rw [show 1 + padZeros n + i = (padZeros n + i) + 1 by omega, List.set_cons_succ]
  congr 1
  rw [List.set_append_right _ _ (by simp)]
  congr 1
  rw [List.length_replicate, Nat.add_sub_cancel_left, List.set_append_right _ _ (by simp [be64_length]; omega)]
  rw [show i - (List.take i (be64 (8 * n))).length = 0 by simp [be64_length]; omega]
  rw [show 127 - padZeros n - i = (127 - padZeros n - (i + 1)) + 1 by omega, List.replicate_succ, List.set_cons_zero, List.take_add_one, hb]
  simp
theorem endL_take (n : Nat) : (endL n 8).take (1 + padZeros n + 8) = padding n := by
  unfold endL padding
  rw [show 1 + padZeros n + 8 = (padZeros n + 8) + 1 by omega, List.take_succ_cons]
  congr 1
  rw [List.take_append, List.take_of_length_le (by simp)]
  congr 1
  rw [List.length_replicate, Nat.add_sub_cancel_left, List.take_append_of_le_length (by simp [be64_length])]
  rw [List.take_of_length_le (by simp [be64_length]), List.take_of_length_le (by simp [be64_length])]
theorem pad_test (n j : Nat) (hj : j ≤ padZeros n) : ((n % 64 + (1 + j)) % 64 = 56) ↔ j = padZeros n := by
  unfold padZeros at *; omega

/-- A digest, its first c bytes told. -/
def digL (s : S8) (c : Nat) : List UInt8 := (digestOf s).take c ++ List.replicate (32 - c) 0
theorem digL_set (s : S8) (c : Nat) (hc : c < 32) : (bvs (digL s c)).set c (bv (UInt8.ofNat ((s.nth (c / 4)).toNat / 2 ^ (24 - 8 * (c % 4))))) = bvs (digL s (c + 1)) := by
  have hb : (digestOf s)[c]? = some (UInt8.ofNat ((s.nth (c / 4)).toNat / 2 ^ (24 - 8 * (c % 4)))) := by simp [digestOf, hc]
  unfold bvs
  rw [← List.map_set]
  congr 1
  unfold digL
  rw [List.set_append_right _ _ (by simp [digestOf_length]; omega), show c - (List.take c (digestOf s)).length = 0 by simp [digestOf_length]; omega]
  rw [show 32 - c = (32 - (c + 1)) + 1 by omega, List.replicate_succ, List.set_cons_zero, List.take_add_one, hb]
  simp
theorem digL_all (s : S8) : digL s 32 = digestOf s := by
  unfold digL
  rw [List.take_of_length_le (by simp [digestOf_length])]; simp
theorem digL_length (s : S8) (c : Nat) (hc : c ≤ 32) : (digL s c).length = 32 := by simp [digL, digestOf_length]; omega
theorem digL_zero (s : S8) : bvs (digL s 0) = List.replicate 32 (.int .u8 0) := by simp [digL, bvs, bv]
theorem byte_of_nat (n e : Nat) : Value.int .u8 (((n : Nat) : Int) / 2 ^ e % 256) = bv (UInt8.ofNat (n / 2 ^ e)) := by
  have h : ((UInt8.ofNat (n / 2 ^ e)).toNat : Int) = ((n : Nat) : Int) / 2 ^ e % 256 := by
    rw [UInt8.toNat_ofNat']
    show ((n / 2 ^ e % 256 : Nat) : Int) = _
    rw [Int.natCast_emod, Int.natCast_ediv, Int.natCast_pow]
    rfl
  unfold bv
  rw [h]

theorem index_state (s : S8) (n : Nat) (hn : n < 8) (w0 : World) : (Instr.index 82 (.agg (sv s).toArray) (.int .i64 n)).run Tryd.prog w0 = .ok (.int .u32 (s.nth n).toNat) w0 := by
  rcases (show n = 0 ∨ n = 1 ∨ n = 2 ∨ n = 3 ∨ n = 4 ∨ n = 5 ∨ n = 6 ∨ n = 7 by omega) with rfl | rfl | rfl | rfl | rfl | rfl | rfl | rfl <;> kernel_rfl

set_option maxHeartbeats 4000000 in
set_option maxRecDepth 100000 in
theorem sum_any (w : World) (g : Nat) (m : List UInt8) (hH : HashAt w g m) (hm60 : m.length < 1152921504606846976) (htab : Tab w) :
    Calls Tryd.prog 38 #[.pointer (some ⟨g, 0, none⟩)] w fun e w' => e = .returned (.agg (bvs (sha m)).toArray) ∧ Below w.heap.size w w' := by
  obtain ⟨i1, hi1, hy1, _, _⟩ := info_parts info_digest
  obtain ⟨i2, hi2, hy2, _, _⟩ := info_parts info_hasher
  obtain ⟨i3, hi3, hy3, _, _⟩ := info_parts info_end
  obtain ⟨rest, hrl, hrt, hB, hm⟩ := hH
  have Hrl := Lib.hid hrl
  have Hrt := Lib.hid hrt
  have hgl := hB.lt
  have hz := padZeros_lt m.length
  have hsz : (hcells (hs m (m.length / 64)) rest m.length).length = 73 := hcells_length _ _ hrl _
  have Hsz := Lib.hid hsz
  clear hrl hrt hsz
  go_enter Tryd.func38, Tryd.ntmps38
  go_wp2_with (first
    | ((with_reducible refine law_alloc 23 i1 _ hi1 hy1 (List.replicate 32 (.int .u8 0)) ?_ ?_); (rfl); intro g1 w1 hg1 hB1 hr1 hs1)
    | ((with_reducible refine law_alloc 86 i2 _ hi2 hy2 (hcells s8Zero (List.replicate 64 0) 0) ?_ ?_); (rfl); intro g3 w3 hg3 hB3 hr3 hs3)
    | ((with_reducible refine law_load (.tmp 13) 86 _ Tryd.underlying86 ?_ g 0 ?_ _ ?_ (hB.grown hr1 ?_).range ?_); (rfl); (rfl); (rw [Hsz.out]; exact size_hasher); (simp))
    | ((with_reducible refine law_store (.tmp 3) (.tmp 14) 86 g3 0 ?_ _ ?_ ?_ 86 _ hB3 ?_ (oneCell_hcells (hs m (m.length / 64)) rest m.length) ?_); (rfl); (rfl); (rw [Hsz.out]; exact size_hasher); (rw [Hsz.out]; decide); intro w4 hB4 hr4 hs4; rw [lay_all _ _ (by rw [Hsz.out]; rfl)] at hB4; have c4 : w4.cell? ⟨g3, 72, none⟩ = some (.int .u64 (m.length : Int)) := (hB4.cell 72).trans (hcells_n _ _ Hrl.out _))
    | ((with_reducible refine law_alloc 87 i3 _ hi3 hy3 (List.replicate 128 (.int .u8 0)) ?_ ?_); (rfl); intro g5 w5 hg5 hB5 hr5 hs5)
    | ((with_reducible refine law_storeCell (.tmp 18) (.const (.int .u8 128)) 5 g5 0 ?_ (.int .u8 128) ?_ ?_ ?_ ?_ 87 _ hB5 ?_ ?_); (rfl); (rfl); (rfl); (rfl); (kernel_rfl); (decide); intro w6 hB6 hr6 hs6; rw [← endL_zero m.length] at hB6))
  have e1 := hg1.out
  have e3 := hg3.out
  have e5 := hg5.out
  have f1 := hs1.out
  have f3 := hs3.out
  have f5 := hs5.out
  have hb1 : Below w.heap.size w w1 := below_of_grown hr1 (Nat.le_refl _) (by simp)
  have hb3 : Below w.heap.size w w3 := hb1.trans (below_of_grown hr3 hr1.size (by simp))
  have hb4 : Below w.heap.size w w4 := hb3.trans (below_of_grown hr4 (by omega) (by intro k hk; injection hk; omega))
  have hb5 : Below w.heap.size w w5 := hb4.trans (below_of_grown hr5 (by omega) (by simp))
  have hb6 : Below w.heap.size w w6 := hb5.trans (below_of_grown hr6 (by omega) (by intro k hk; injection hk; omega))
  have hB1' : Blk w6 g1 23 (List.replicate 32 (.int .u8 0)) := (((hB1.grown hr3 (by simp)).grown hr4 (by simp; omega)).grown hr5 (by simp)).grown hr6 (by simp; omega)
  have hB4' : Blk w6 g3 86 (hcells (hs m (m.length / 64)) rest m.length) := (hB4.grown hr5 (by simp)).grown hr6 (by simp; omega)
  have c6 : w6.cell? ⟨g, 72, none⟩ = some (.int .u64 (m.length : Int)) := by rw [hb6.cell (p := ⟨g, 72, none⟩) hgl, hB.cell, hcells_n _ _ Hrl.out]
  have g13 : w.heap.size ≤ g1 ∧ g1 < g3 ∧ g3 < g5 := by omega
  have g13h := Lib.hid g13
  have s6 : w6.heap.size = g5 + 1 := by omega
  have S6 := Lib.hid s6
  clear hg1 hg3 hg5 hs1 hs3 hs5 hs4 hs6 e1 e3 e5 f1 f3 f5 hb1 hb3 hb4 hb5 hB1 hB3 hB4 hr1 hr3 hr4 hr5 hr6 hB5 g13 s6 c4
  go_loop [6] (fun i => ∃ j : Nat, j ≤ padZeros m.length ∧ i = .int .i64 (1 + (j : Int))) (fun i => 100 - (intOf i).toNat)
  case atStart => exact ⟨0, Nat.zero_le _, rfl⟩
  case round =>
    obtain ⟨j, hj, rfl⟩ := hrel
    have hpt := pad_test m.length j hj
    by_cases hjz : j = padZeros m.length
    · have hne : (((m.length : Int) % 64 + (1 + (j : Int))) % 64 != 56) = false := by
        have := hpt.2 hjz
        rw [bne_eq_false_iff_eq]; omega
      clear hpt
      go_wp2
      clear hne hjz hj
      go_loopw [31] (fun iv wr => ∃ i : Nat, i ≤ 8 ∧ iv = .int .i64 (i : Int) ∧ Blk wr g5 87 (bvs (endL m.length i)) ∧ Blk wr g3 86 (hcells (hs m (m.length / 64)) rest m.length) ∧ Blk wr g1 23 (List.replicate 32 (.int .u8 0)) ∧ Below w.heap.size w wr ∧ Hid (wr.heap.size = g5 + 1)) (fun iv _ => 8 - (intOf iv).toNat)
      case atStart => exact ⟨0, by omega, rfl, hB6, hB4', hB1', hb6, S6⟩
      clear hB6 hB4' hB1' hb6 S6 c6
      case round =>
        obtain ⟨i, hi, rfl, hE, hG, hR, hb, S6⟩ := hrel
        by_cases hi8 : i < 8
        · have hv : Value.int .u8 (8 * (m.length : Int) / 2 ^ (56 - 8 * i) % 256) = bv (UInt8.ofNat (8 * m.length / 2 ^ (56 - 8 * i))) := by rw [← byte_of_nat, Int.natCast_mul]; rfl
          have Hv := Lib.hid hv
          have hfit : 1 + padZeros m.length + i < (bvs (endL m.length i)).length := by rw [bvs_length, endL_length _ _ (by omega)]; omega
          clear hv
          go_wp2_with (first
            | ((with_reducible refine law_storeCell (.tmp 43) (.tmp 42) 5 g5 (1 + padZeros m.length + i) ?_ (bv (UInt8.ofNat (8 * m.length / 2 ^ (56 - 8 * i)))) ?_ ?_ ?_ ?_ 87 _ hE hfit ?_); (rfl); (exact Hv.out); (rfl); (rfl); (kernel_rfl); intro w7 hE7 hr7 hs7; rw [endL_set _ _ hi8] at hE7))
          go_roundw
          case rel =>
            have g13 := g13h.out
            exact ⟨i + 1, by omega, by go_num, hE7, hG.grown hr7 (by simp; omega), hR.grown hr7 (by simp; omega), hb.trans (below_of_grown hr7 hb.size (by intro k hk; injection hk; omega)), Lib.hid (hs7.trans S6.out)⟩
          case measure => simp [intOf]; omega
        · have hE8 : Blk wr g5 87 (bvs (endL m.length 8)) := by rw [← (show i = 8 by omega)]; exact hE
          have b0 : (0 : Int) ≤ 1 + (padZeros m.length : Int) + 8 := by omega
          have b1 : 1 + (padZeros m.length : Int) + 8 ≤ 128 := by omega
          have hpl : (padding m.length).length = 1 + padZeros m.length + 8 := by simp [padding, be64_length]; omega
          have hrd : Rd wr (some ⟨g5, 0, none⟩) (bvs (padding m.length)) := by
            have := Rd.of_blk hE8 0 (1 + padZeros m.length + 8)
            rw [List.drop_zero] at this
            unfold bvs at *
            rwa [← List.map_take, endL_take] at this
          have hH3 : HashAt wr g3 m := ⟨rest, Hrl.out, Hrt.out, hG, hm⟩
          have g13 := g13h.out
          have htabr : Tab wr := fun t ht => by rw [hb.cell (p := ⟨_, t, none⟩) (block_lt_of_cell (htab t ht))]; exact htab t ht
          have h30 : g3 ≠ 0 := by omega
          have Hpl := Lib.hid hpl
          have G53 := Lib.hid (show g5 ≠ g3 by omega)
          clear hE hpl hG g13
          go_wp2_with (first
            | (go_at_call 36; refine (write_len wr g3 m (padding m.length) _ Hpl.out.symm hH3 _ 128 hrd (by omega) (by decide) (by intro _ ad h; injection h with h; subst h; exact G53.out) (by rw [Hpl.out]; omega) htabr h30).mono ?_; rintro e w8 ⟨rfl, ⟨rest8, hrl8, _, hB8, _⟩, hg8⟩; rw [List.length_append] at hB8; obtain ⟨s, hs8⟩ : ∃ s, s = hs (m ++ padding m.length) ((m.length + (padding m.length).length) / 64) := ⟨_, rfl⟩; have Hs8 := Lib.hid hs8; rw [← hs8] at hB8; clear hs8 hrl8)
            | ((with_reducible refine law_alloc 23 i1 _ hi1 hy1 (List.replicate 32 (.int .u8 0)) ?_ ?_); (rfl); intro ga wa hga hBa hra hsa)
            | ((with_reducible refine law_load (.tmp 49) 82 _ Tryd.underlying82 ?_ g3 0 ?_ (sv s) ?_ (hB8.grown hra ?_).range_head ?_); (rfl); (rfl); (exact size_state); (simp)))
          have g13 := g13h.out
          have ea := hga.out
          have hba : Below w.heap.size w wa := hb.trans ((below_of_grown hg8 hb.size (by intro k hk; injection hk; omega)).trans (below_of_grown hra (Nat.le_trans hb.size hg8.size) (by simp)))
          have hRa : Blk wa g1 23 (List.replicate 32 (.int .u8 0)) := (hR.grown hg8 (by simp; omega)).grown hra (by simp)
          have hga1 : g1 < ga := by have := hR.lt; have := hg8.size; omega
          have hwa : w.heap.size ≤ ga := by omega
          have hw1 : w.heap.size ≤ g1 := by omega
          rw [← digL_zero s] at hBa
          clear hga hsa ea hb hR hg8 hra hrd hH3 htabr Hpl G53 hB8 hi S6 g13 g13h
          go_loopw [51] (fun iv wr => ∃ i : Nat, i ≤ 8 ∧ iv = .int .i64 (i : Int) ∧ Blk wr ga 23 (bvs (digL s (4 * i))) ∧ Blk wr g1 23 (List.replicate 32 (.int .u8 0)) ∧ Below w.heap.size w wr) (fun iv _ => 8 - (intOf iv).toNat)
          case atStart => exact ⟨0, by omega, rfl, hBa, hRa, hba⟩
          clear hBa hRa hba
          case round =>
            obtain ⟨i, hi, rfl, hD, hR, hb⟩ := hrel
            by_cases hi8 : i < 8
            · have hidx := index_state s i hi8
              have hdi : decide ((i : Int) < 8) = true := by simp; omega
              go_wp2
              obtain ⟨wo, rfl⟩ : ∃ wo : World, wo = wr := ⟨_, rfl⟩
              go_loopw [55] (fun jv wr => ∃ j : Nat, j ≤ 4 ∧ jv = .int .i64 (j : Int) ∧ Blk wr ga 23 (bvs (digL s (4 * i + j))) ∧ Blk wr g1 23 (List.replicate 32 (.int .u8 0)) ∧ Below w.heap.size w wr) (fun jv _ => 4 - (intOf jv).toNat)
              case atStart => exact ⟨0, by omega, rfl, hD, hR, hb⟩
              clear hD hR hb hidx hi
              case round =>
                obtain ⟨j, hj, rfl, hD, hR, hb⟩ := hrel
                by_cases hj4 : j < 4
                · have hv : Value.int .u8 (((s.nth i).toNat : Int) / 2 ^ (24 - 8 * j) % 256) = bv (UInt8.ofNat ((s.nth ((4 * i + j) / 4)).toNat / 2 ^ (24 - 8 * ((4 * i + j) % 4)))) := by
                    rw [show (4 * i + j) / 4 = i by omega, show (4 * i + j) % 4 = j by omega, ← byte_of_nat]
                  have Hv := Lib.hid hv
                  have hfit : 4 * i + j < (bvs (digL s (4 * i + j))).length := by rw [bvs_length, digL_length _ _ (by omega)]; omega
                  clear hv
                  go_wp2_with (first
                    | ((with_reducible refine law_storeCell (.tmp 68) (.tmp 67) 5 ga (4 * i + j) ?_ (bv (UInt8.ofNat ((s.nth ((4 * i + j) / 4)).toNat / 2 ^ (24 - 8 * ((4 * i + j) % 4))))) ?_ ?_ ?_ ?_ 23 _ hD hfit ?_); (rfl); (exact Hv.out); (rfl); (rfl); (kernel_rfl); intro w9 hD9 hr9 hs9; rw [digL_set _ _ (by omega)] at hD9))
                  go_roundw
                  case rel => exact ⟨j + 1, by omega, by go_num, hD9, hR.grown hr9 (by simp; omega), hb.trans (below_of_grown hr9 hb.size (by intro k hk; injection hk; omega))⟩
                  case measure => simp [intOf]; omega
                · have hD4 : Blk wr ga 23 (bvs (digL s (4 * (i + 1)))) := by rw [← (show 4 * i + j = 4 * (i + 1) by omega)]; exact hD
                  clear hD
                  go_wp2
                  go_roundw
                  case rel => exact ⟨i + 1, by omega, by go_num, hD4, hR, hb⟩
                  case measure => simp [intOf]; omega
            · have hD8 : Blk wr ga 23 (bvs (sha m)) := by
                have e : 4 * i = 32 := by omega
                rw [e, digL_all, Hs8.out] at hD
                exact hD
              have Hl := Lib.hid (show 32 = (bvs (sha m)).length by rw [bvs_length, sha_length])
              clear hD
              go_wp2_with (first
                | ((with_reducible refine law_load (.tmp 8) 23 _ Tryd.underlying23 ?_ ga 0 ?_ (bvs (sha m)) ?_ hD8.range ?_); (rfl); (rfl); (rw [← Hl.out]; exact size_digest))
                | ((with_reducible refine law_store (.tmp 2) (.tmp 71) 23 g1 0 ?_ (bvs (sha m)) ?_ ?_ 23 (List.replicate 32 (.int .u8 0)) hR ?_ (oneCell_bvs _) ?_); (rfl); (rfl); (rw [← Hl.out]; exact size_digest); (rw [← Hl.out]; decide); intro wz hBz hrz hsz; rw [lay_all _ _ (by rw [← Hl.out]; rfl)] at hBz))
              exact ret_cell rfl g1 rfl 23 _ hBz _ Tryd.underlying23 rfl (by rw [← Hl.out]; exact size_digest) rfl ⟨rfl, hb.trans (below_of_grown hrz hb.size (by intro k hk; injection hk; omega))⟩
    · have hne : (((m.length : Int) % 64 + (1 + (j : Int))) % 64 != 56) = true := by
        have := fun h => hjz (hpt.1 h)
        rw [bne_iff_ne]; omega
      have hlt : j < padZeros m.length := by omega
      clear hpt
      go_wp2
      go_round
      case rel => exact ⟨j + 1, by omega, by go_num⟩
      case measure => simp [intOf]; omega
end Go.Proofs.YtcmponmgaikkfaaDoor
