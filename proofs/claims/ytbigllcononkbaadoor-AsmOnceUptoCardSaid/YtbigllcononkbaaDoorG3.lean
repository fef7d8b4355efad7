/- The walk of the definition's At (layer 13). -/
import Derived.Test.YtbigllcononkbaaDoorG2
namespace Go.Proofs.YtbigllcononkbaaDoor
open Go Go.RowKit

theorem hi13_shape : ∀ c, c < 41 → hi13 c = (if shapeN c = 1 then 127 else if shapeN c = 2 then 32767 else if shapeN c = 3 then 9223372036854775807 else if shapeN c = 4 then 5 else if shapeN c = 5 then 255 else if shapeN c = 6 then 65535 else 0) := by decide +kernel
theorem shape0 : ∀ c, c < 41 → widthN (shapeN c) = 0 → shapeN c = 0 := by decide +kernel
theorem fits_hi (c n : Nat) (hc : c < 41) (h0 : 0 < widthN (shapeN c)) (hn : n < 256 ^ widthN (shapeN c)) : fitsB (shapeN c) (valueN (shapeN c) n) = decide (valueN (shapeN c) n ≤ hi13 c) := by
  have hi := hi13_shape c hc
  have hv := valueN_in64 (shapeN c) n
  have h6 := shapeN_le c
  rw [hi]
  clear hi
  generalize shapeN c = a at *
  have hsmall : n < 65536 → a ≠ 1 → a ≠ 2 → valueN a n = (n : Int) := fun h h1 h2 => by
    simp only [valueN, if_neg h1, if_neg h2]
    rw [if_pos (by omega)]
    omega
  obtain rfl | rfl | rfl | rfl | rfl | rfl | rfl : a = 0 ∨ a = 1 ∨ a = 2 ∨ a = 3 ∨ a = 4 ∨ a = 5 ∨ a = 6 := by omega
  · simp [widthN] at h0
  · have : -128 ≤ valueN 1 n := by simp only [valueN, if_pos]; split <;> omega
    generalize valueN 1 n = v at *
    simp [fitsB]; omega
  · have : -32768 ≤ valueN 2 n := by simp only [valueN, if_pos, if_neg (show ¬ (2 : Nat) = 1 by decide)]; split <;> omega
    generalize valueN 2 n = v at *
    simp [fitsB]; omega
  · generalize valueN 3 n = v at *
    simp [fitsB]; omega
  all_goals
    rw [hsmall (by simp [widthN] at hn; omega) (by omega) (by omega)]
    simp [fitsB]
  all_goals omega
set_option maxRecDepth 100000 in
set_option maxHeartbeats 1600000 in
theorem at13_bad (s : ByteArray) (i : Nat) (w : World) (h : i < s.size) (hs : s.size ≤ 140737488351232) (hb : 41 ≤ s[i].toNat) :
    Calls Tryd.prog 20 #[.string s, .int .i64 i] w fun e w' => e = .returned (atV none) ∧ Below w.heap.size w w' := by
  have hw : w13 s[i].toNat = -1 := by unfold w13; rw [if_pos (by omega)]
  have HW := Lib.hid hw
  have d3 : IntKind.i64.wrap (s[i].toNat : Int) = s[i].toNat := IntWalk.i64_in _ (by have := s[i].toNat_lt; omega)
  clear hw
  go_enter Tryd.func20, Tryd.ntmps20
  go_wp2_with (go_at_call 37; refine (width13_any _ _).mono ?_; rintro e w3 ⟨rfl, h3⟩; rw [h3]; clear h3 w3; rw [HW.out])
  exact bodyPost_ret (v := .tuple #[.agg #[.int .i64 0, .int .i64 0], .int .i64 0, .int .i64 10]) (by simp [results, Tryd.results20, go_sem]) rfl ⟨rfl, ((Below.refl _ _).alloc (Nat.le_refl _) _)⟩
set_option maxRecDepth 100000 in
set_option maxHeartbeats 1600000 in
theorem at13_short (s : ByteArray) (i : Nat) (w : World) (h : i < s.size) (hs : s.size ≤ 140737488351232) (hb : s[i].toNat < 41) (hw : (s.size : Int) - i - 1 < widthN (shapeN s[i].toNat)) :
    Calls Tryd.prog 20 #[.string s, .int .i64 i] w fun e w' => e = .returned (atV none) ∧ Below w.heap.size w w' := by
  have HW := Lib.hid (w13_eq s[i].toNat hb)
  have d3 : IntKind.i64.wrap (s[i].toNat : Int) = s[i].toNat := IntWalk.i64_in _ (by omega)
  go_enter Tryd.func20, Tryd.ntmps20
  go_wp2_with (go_at_call 37; refine (width13_any _ _).mono ?_; rintro e w3 ⟨rfl, h3⟩; rw [h3]; clear h3 w3; rw [HW.out])
  exact bodyPost_ret (v := .tuple #[.agg #[.int .i64 0, .int .i64 0], .int .i64 0, .int .i64 10]) (by simp [results, Tryd.results20, go_sem]) rfl ⟨rfl, ((Below.refl _ _).alloc (Nat.le_refl _) _)⟩
set_option maxRecDepth 100000 in
set_option maxHeartbeats 1600000 in
theorem at13_bare (s : ByteArray) (i : Nat) (w : World) (h : i < s.size) (hs : s.size ≤ 140737488351232) (hb : s[i].toNat < 41) (hw : widthN (shapeN s[i].toNat) = 0) :
    Calls Tryd.prog 20 #[.string s, .int .i64 i] w fun e w' => e = .returned (atV (some ⟨s[i].toNat, 0⟩)) ∧ Below w.heap.size w w' := by
  have HW := Lib.hid (w13_eq s[i].toNat hb)
  have HW0 := Lib.hid hw
  clear hw
  have d3 : IntKind.i64.wrap (s[i].toNat : Int) = s[i].toNat := IntWalk.i64_in _ (by omega)
  go_enter Tryd.func20, Tryd.ntmps20
  go_wp2_with (go_at_call 37; refine (width13_any _ _).mono ?_; rintro e w3 ⟨rfl, h3⟩; rw [h3]; clear h3 w3; rw [HW.out, HW0.out])
  exact bodyPost_ret (v := atV (some ⟨s[i].toNat, 0⟩)) (by simp [atV, Ins.len, Ins.w, HW0.out, results, Tryd.results20, go_sem]) rfl ⟨rfl, (Below.refl _ _).alloc (Nat.le_refl _) _⟩
set_option maxRecDepth 100000 in
set_option maxHeartbeats 1600000 in
theorem at13_oper (s : ByteArray) (i : Nat) (w : World) (h : i < s.size) (hs : s.size ≤ 140737488351232) (hb : s[i].toNat < 41) (W : Nat) (hW : widthN (shapeN s[i].toNat) = W) (h0 : 0 < W) (hw : i + 1 + W ≤ s.size) :
    Calls Tryd.prog 20 #[.string s, .int .i64 i] w fun e w' => e = .returned (atAns s i W (shapeN s[i].toNat) s[i].toNat) ∧ Below w.heap.size w w' := by
  have HW := Lib.hid (w13_eq s[i].toNat hb)
  have hW8 : W ≤ 8 := by have := widthN_cases (shapeN s[i].toNat); omega
  have HW0 := Lib.hid hW
  clear hW
  have d3 : IntKind.i64.wrap (s[i].toNat : Int) = s[i].toNat := IntWalk.i64_in _ (by omega)
  have hlen : (s.extract (i + 1) (i + 1 + W)).size = W := by rw [ByteArray.size_extract]; omega
  have hdat : (s.extract (i + 1) (i + 1 + W)).data.toList = (s.data.toList.drop (i + 1)).take W := by
    simp [ByteArray.data_extract]
  have hsl : ∀ wx, (Instr.slice 9 (.string s) (some (.int .i64 ((i : Int) + 1))) (some (.int .i64 ((i : Int) + 1 + W))) none).run Tryd.prog wx = .ok (.string (s.extract (i + 1) (i + 1 + W))) wx := fun wx => by
    have := run_slice_string (P := Tryd.prog) wx 9 s .i64 .i64 ((i : Int) + 1) ((i : Int) + 1 + W) Tryd.underlying9 (by omega) (by omega) (by omega)
    rw [this]
    congr 2
  have HOP := fun wx => operand13_any s[i].toNat (s.extract (i + 1) (i + 1 + W)) wx hb (by rw [hlen, HW0.out]) (by omega)
  rw [hdat] at HOP
  have hn := leN_lt ((s.data.toList.drop (i + 1)).take W)
  have hl2 : ((s.data.toList.drop (i + 1)).take W).length = W := by rw [← hdat, Array.length_toList]; exact hlen
  rw [hl2] at hn
  have hfh := fits_hi s[i].toNat (leN ((s.data.toList.drop (i + 1)).take W)) hb (by rw [HW0.out]; exact h0) (by rw [HW0.out]; exact hn)
  unfold atAns
  generalize hV : valueN (shapeN s[i].toNat) (leN ((s.data.toList.drop (i + 1)).take W)) = V at *
  generalize s.extract (i + 1) (i + 1 + W) = t at *
  have HOP2 := Lib.hid HOP
  clear HOP hdat hlen hn hl2 hV
  by_cases hle : V ≤ hi13 s[i].toNat
  · have hf : fitsB (shapeN s[i].toNat) V = true := by rw [hfh]; simpa using hle
    have HF := Lib.hid hf
    clear hf hfh
    rw [HF.out, if_pos rfl]
    go_enter Tryd.func20, Tryd.ntmps20
    go_wp2_with (first | (go_at_call 37; refine (width13_any _ _).mono ?_; rintro e w3 ⟨rfl, h3⟩; rw [h3]; clear h3 w3; rw [HW.out, HW0.out]) | (go_at_call 38; refine (HOP2.out _).mono ?_; rintro e w3 ⟨rfl, h3⟩; rw [h3]; clear h3 w3) | (go_at_call 39; refine (range13_any _ _).mono ?_; rintro e w3 ⟨rfl, h3⟩; rw [h3]; clear h3 w3))
    refine bodyPost_ret (v := .tuple #[.agg #[.int .i64 s[i].toNat, .int .i64 V], .int .i64 (1 + W : Nat), .int .i64 0]) (by rw [Int.natCast_add]; simp [results, Tryd.results20, go_sem]) rfl ⟨rfl, ?_⟩
    exact (Below.refl _ _).alloc (Nat.le_refl _) _
  · have hf : fitsB (shapeN s[i].toNat) V = false := by rw [hfh]; simpa using hle
    have HF := Lib.hid hf
    clear hf hfh
    rw [HF.out, if_neg (by decide)]
    go_enter Tryd.func20, Tryd.ntmps20
    go_wp2_with (first | (go_at_call 37; refine (width13_any _ _).mono ?_; rintro e w3 ⟨rfl, h3⟩; rw [h3]; clear h3 w3; rw [HW.out, HW0.out]) | (go_at_call 38; refine (HOP2.out _).mono ?_; rintro e w3 ⟨rfl, h3⟩; rw [h3]; clear h3 w3) | (go_at_call 39; refine (range13_any _ _).mono ?_; rintro e w3 ⟨rfl, h3⟩; rw [h3]; clear h3 w3))
    refine bodyPost_ret (v := .tuple #[.agg #[.int .i64 0, .int .i64 0], .int .i64 0, .int .i64 10]) (by simp [results, Tryd.results20, go_sem]) rfl ⟨rfl, ?_⟩
    exact (Below.refl _ _).alloc (Nat.le_refl _) _
/-- The definition's At, at a place of the text. -/
theorem at13_any (s : ByteArray) (i : Nat) (w : World) (hs : s.size ≤ 140737488351232) (h : i < s.size) :
    Calls Tryd.prog 20 #[.string s, .int .i64 i] w fun e w' => e = .returned (atV (atF (s.data.toList.drop i))) ∧ Below w.heap.size w w' := by
  rw [drop_cons s i h]
  by_cases hb : s[i].toNat < 41
  · have hlen : (s.data.toList.drop (i + 1)).length = s.size - (i + 1) := by simp
    by_cases hw : s.size - (i + 1) < widthN (shapeN s[i].toNat)
    · have e : atF (s[i] :: s.data.toList.drop (i + 1)) = none := by simp only [atF, if_pos hb, hlen, if_pos hw]
      rw [e]
      exact at13_short s i w h hs hb (by omega)
    · by_cases h0 : widthN (shapeN s[i].toNat) = 0
      · have hs0 := shape0 _ hb h0
        have e : atF (s[i] :: s.data.toList.drop (i + 1)) = some ⟨s[i].toNat, 0⟩ := by
          simp only [atF, if_pos hb, hlen, if_neg hw, h0, List.take_zero, leN, hs0]
          rfl
        rw [e]
        exact at13_bare s i w h hs hb h0
      · refine (at13_oper s i w h hs hb _ rfl (by omega) (by omega)).mono fun e w' he => ?_
        obtain ⟨rfl, hbl⟩ := he
        refine ⟨?_, hbl⟩
        simp only [atF, if_pos hb, hlen, if_neg hw, atAns]
        split
        · simp [atV, Ins.len, Ins.w]
        · rfl
  · have e : atF (s[i] :: s.data.toList.drop (i + 1)) = none := by simp only [atF, if_neg hb]
    rw [e]
    exact at13_bad s i w h hs (by omega)
end Go.Proofs.YtbigllcononkbaaDoor
