/- The walk of the definition's Bytes (layer 13). -/
import Derived.Test.YtbigllcononkbaaDoorR11
namespace Go.Proofs.YtbigllcononkbaaDoor
open Go Go.RowKit

theorem wrap_u64 (o : Int) : 0 ≤ IntKind.u64.wrap o ∧ IntKind.u64.wrap o < 18446744073709551616 := by
  simp only [IntKind.wrap, IntKind.bits, IntKind.signed]
  simp
  omega
theorem quo_step (v : Int) (j : Nat) : v / 2 ^ (8 * j) / 256 = v / 2 ^ (8 * (j + 1)) := by
  rw [Int.ediv_ediv_of_nonneg (by exact Int.le_of_lt (Int.pow_pos (by omega)))]
  congr 1
  rw [show 8 * (j + 1) = 8 * j + 8 by omega, Int.pow_add]
  rfl
set_option maxRecDepth 100000 in
set_option maxHeartbeats 1600000 in
theorem bytes13_any (c : Nat) (o : Int) (w : World) (hc : c < 41) :
    Calls Tryd.prog 30 #[.agg #[.int .i64 c, .int .i64 o]] w fun e w' => e = .returned (.string ⟨(Ins.enc ⟨c, o⟩).toArray⟩) ∧ Below w.heap.size w w' := by
  obtain ⟨i0, hi, hz0, hz1, hz2⟩ := info_parts infoByte
  have HW := Lib.hid (w13_eq c hc)
  have hw8 : widthN (shapeN c) ≤ 8 := by have := widthN_cases (shapeN c); omega
  have d3 : IntKind.u8.wrap (c : Int) = c := by simp [IntKind.wrap, IntKind.bits, IntKind.signed]; omega
  go_enter Tryd.func30, Tryd.ntmps30
  go_wp2_with (go_at_call 37; refine (width13_any _ _).mono ?_; rintro e w3 ⟨rfl, h3⟩; rw [h3]; clear h3 w3; rw [HW.out])
  obtain ⟨hV0, hV1⟩ := wrap_u64 o
  go_loopw [3, 4, 6] (fun b n i wr => ∃ (j : Nat), i = .int .i64 j ∧ j ≤ widthN (shapeN c) ∧ n = .int .u64 (IntKind.u64.wrap o / 2 ^ (8 * j)) ∧
    Hid (wr.ownsRow w.heap.size 5 1 b (1 + j) (bv (UInt8.ofNat c :: (leB (widthN (shapeN c)) o).take j))) ∧ Below w.heap.size w wr) (fun _ _ i _ => widthN (shapeN c) - (intOf i).toNat)
  case atStart =>
    refine ⟨0, rfl, by omega, by simp, ?_, ((Below.refl _ _).alloc (Nat.le_refl _) _).alloc (by simp) _⟩
    show World.ownsRow _ _ _ _ _ _ _
    have hh := heap_new (w.alloc (.cells #[.int .i64 c, .int .i64 o] 35)) (.cells #[.int .u8 c] 5)
    rw [size_al] at hh
    have hcb : (UInt8.ofNat c).toNat = c := UInt8.toNat_ofNat_of_lt' (by simp only [UInt8.size]; omega)
    exact ⟨by simp [bv], .inr ⟨w.heap.size + 1, 1, _, rfl, by omega, hh, by omega, by unfold maxLen; omega, rfl, by simp [bv, hcb]⟩⟩
  case round =>
    obtain ⟨j, rfl, hj, rfl, HB, hb⟩ := hrel
    have hq := shr_byte o j
    have hqs := quo_step (IntKind.u64.wrap o) j
    have hn0 : 0 ≤ IntKind.u64.wrap o / 2 ^ (8 * j) := Int.ediv_nonneg hV0 (by exact Int.le_of_lt (Int.pow_pos (by omega)))
    have hn1 : IntKind.u64.wrap o / 2 ^ (8 * j) < 18446744073709551616 := Int.lt_of_le_of_lt (Int.ediv_le_self _ hV0) hV1
    by_cases hjlt : j < widthN (shapeN c)
    · have hq2 := hq (by omega)
      have hget := leB_get (widthN (shapeN c)) o j hjlt
      have HGET := Lib.hid hget
      have HQ := Lib.hid hq2
      have HQS := Lib.hid hqs
      generalize IntKind.u64.wrap o / 2 ^ (8 * j) = V at *
      have HB1 := HB.out
      have hb2 := hb.size
      clear hq hq2 hqs hget
      go_wp2_with ((at_builtin; refine wpList_append_own _ rfl _ _ 41 rfl w.heap.size 5 i0 _ 1 1 Tryd.underlying41 hi hz0 hz1 hz2 rfl (by decide) _ _ _ rfl (HB1.alloc _) ⟨wr.heap.size, 0, none⟩ 1 1 [.int .u8 (V % 256)] rfl rfl ?d1 ?d2 ?d3 ?d4 ?d5 ?_))
      case d1 => exact fun j u => new_cells _ _ _ _ rfl j u
      case d2 => intro u hu; simp at hu; subst hu; rfl
      case d3 => unfold maxLen; omega
      case d4 => omega
      case d5 => simp; omega
      intro v2 w2 hO2 hg2 _
      have hbb : Below w.heap.size w w2 := grown_below HB1 (hb.alloc hb2 _) (by simp; omega) hg2
      have HO2 := Lib.hid hO2
      clear hO2 hg2 HB1
      go_wp2
      go_roundw
      case rel =>
        refine ⟨j + 1, by go_num, by omega, by rw [HQS.out], ?_, hbb⟩
        show World.ownsRow _ _ _ _ _ _ _
        rw [HGET.out]
        have := HO2.out
        rw [HQ.out] at this
        simpa [bv, Nat.add_assoc] using this
      case measure => simp [intOf]; omega
    · obtain rfl : j = widthN (shapeN c) := by omega
      have HC := run_string_own wr w.heap.size _ (UInt8.ofNat c :: leB (widthN (shapeN c)) o) (by
        have := HB.out
        rw [List.take_of_length_le (by simp [leB_length])] at this
        simpa [leB_length, Nat.add_comm] using this)
      rcases own_form HB.out with ⟨_, h⟩ | ⟨g5, cap5, rfl, h1, h2, h3, h4⟩
      · omega
      · have HCC := Lib.hid HC
        clear hq hqs hn0 hn1
        go_wp2
        go_ret
        exact ⟨rfl, hb⟩
end Go.Proofs.YtbigllcononkbaaDoor
