/- The walk of the definition's operand (layer 13). -/
import Derived.Test.YtbigllcononkbaaDoorG1
namespace Go.Proofs.YtbigllcononkbaaDoor
open Go Go.RowKit

theorem w13_eq : ∀ c, c < 41 → w13 c = widthN (shapeN c) := by decide +kernel
theorem leN_drop (l : List UInt8) (i : Nat) (h : i < l.length) : leN (l.drop i) = 256 * leN (l.drop (i + 1)) + l[i].toNat := by
  rw [List.drop_eq_getElem_cons h, leN]
  omega
theorem lo13_neg : ∀ c, c < 41 → 0 < widthN (shapeN c) → (lo13 c < 0 ↔ (shapeN c = 1 ∨ shapeN c = 2 ∨ shapeN c = 3)) := by decide +kernel
theorem sh13 : ∀ c, c < 41 → 0 < widthN (shapeN c) → shapeN c = 1 ∨ shapeN c = 2 ∨ shapeN c = 3 ∨ ((shapeN c = 4 ∨ shapeN c = 5 ∨ shapeN c = 6) ∧ widthN (shapeN c) ≤ 2) := by decide +kernel
theorem u64_in (x : Int) (h0 : 0 ≤ x) (h1 : x < 18446744073709551616) : IntKind.u64.wrap x = x := by simp [IntKind.wrap, IntKind.bits, IntKind.signed]; omega
theorem leN_snoc : ∀ (t : List UInt8) (b : UInt8) , leN (t ++ [b]) = leN t + 256 ^ t.length * b.toNat
  | [], b => by simp [leN]
  | a :: t, b => by
    simp only [List.cons_append, leN, leN_snoc t b, List.length_cons, Nat.pow_succ]
    rw [Nat.mul_add, Nat.mul_comm (256 ^ t.length) 256, Nat.mul_assoc]
    omega
theorem leN_last (t : ByteArray) (k : Nat) (hk : k < t.size) (h : k + 1 = t.size) : ∃ r, r < 256 ^ k ∧ leN t.data.toList = r + 256 ^ k * t[k].toNat := by
  have h2 : t.data.toList.length = k + 1 := by rw [Array.length_toList]; exact h.symm
  have e : t.data.toList = t.data.toList.take k ++ [t[k]] := by
    have := List.take_succ_eq_append_getElem (l := t.data.toList) (i := k) (by omega)
    rw [List.take_of_length_le (by omega)] at this
    exact this
  have h3 : (t.data.toList.take k).length = k := by rw [List.length_take]; omega
  have h4 := leN_lt (t.data.toList.take k)
  rw [h3] at h4
  refine ⟨leN (t.data.toList.take k), h4, ?_⟩
  conv => lhs; rw [e, leN_snoc, h3]
theorem wv1 (n : Nat) (h : n < 256) (h2 : 128 ≤ n) : wrap64 (wrap64 n - wrap64 256) = valueN 1 n := by
  simp only [valueN, if_pos]
  rw [if_neg (by omega)]
  unfold wrap64
  omega
theorem wv2 (n : Nat) (h : n < 65536) (h2 : 32768 ≤ n) : wrap64 (wrap64 n - wrap64 65536) = valueN 2 n := by
  have e : ¬ (2 : Nat) = 1 := by decide
  simp only [valueN, if_pos, if_neg e]
  rw [if_neg (by omega)]
  unfold wrap64
  omega
theorem wp1 (n : Nat) (h2 : n < 128) : wrap64 n = valueN 1 n := by
  simp only [valueN, if_pos]
  rw [if_pos (by omega)]
  unfold wrap64
  omega
theorem wp2 (n : Nat) (h2 : n < 32768) : wrap64 n = valueN 2 n := by
  have e : ¬ (2 : Nat) = 1 := by decide
  simp only [valueN, if_pos, if_neg e]
  rw [if_pos (by omega)]
  unfold wrap64
  omega
theorem wp0 (a n : Nat) (h1 : a ≠ 1) (h2 : a ≠ 2) : wrap64 n = valueN a n := by
  simp only [valueN, if_neg h1, if_neg h2]
  unfold wrap64
  split <;> omega
/-- The number below 0. -/
theorem val_neg (c : Nat) (t : ByteArray) (k : Nat) (hk : k < t.size) (hk1 : k + 1 = t.size) (hc : c < 41) (hw : t.size = widthN (shapeN c)) (h1 : lo13 c < 0) (h8 : (widthN (shapeN c) : Int) < 8) (hb : 128 ≤ (t[k].toNat : Int)) :
    wrap64 (wrap64 (leN t.data.toList) - wrap64 (2 ^ (8 * widthN (shapeN c)))) = valueN (shapeN c) (leN t.data.toList) := by
  obtain ⟨r, hr, hl⟩ := leN_last t k hk hk1
  have h256 := t[k].toNat_lt
  rcases (lo13_neg c hc (by omega)).1 h1 with h | h | h
  · rw [h] at hw ⊢
    obtain rfl : k = 0 := by simp [widthN] at hw; omega
    exact wv1 _ (by omega) (by omega)
  · rw [h] at hw ⊢
    obtain rfl : k = 1 := by simp [widthN] at hw; omega
    exact wv2 _ (by omega) (by omega)
  · rw [h] at h8
    simp [widthN] at h8
theorem val_pos (c : Nat) (t : ByteArray) (k : Nat) (hk : k < t.size) (hk1 : k + 1 = t.size) (hc : c < 41) (hw : t.size = widthN (shapeN c)) (h : lo13 c < 0 → (widthN (shapeN c) : Int) < 8 → (t[k].toNat : Int) < 128) :
    wrap64 (leN t.data.toList) = valueN (shapeN c) (leN t.data.toList) := by
  obtain ⟨r, hr, hl⟩ := leN_last t k hk hk1
  have h256 := t[k].toNat_lt
  rcases sh13 c hc (by omega) with hs | hs | hs | ⟨hs, hs2⟩
  · have h1 := h ((lo13_neg c hc (by omega)).2 (.inl hs)) (by rw [hs]; decide)
    rw [hs] at hw ⊢
    obtain rfl : k = 0 := by simp [widthN] at hw; omega
    exact wp1 _ (by omega)
  · have h1 := h ((lo13_neg c hc (by omega)).2 (.inr (.inl hs))) (by rw [hs]; decide)
    rw [hs] at hw ⊢
    obtain rfl : k = 1 := by simp [widthN] at hw; omega
    exact wp2 _ (by omega)
  · exact wp0 _ _ (by omega) (by omega)
  · exact wp0 _ _ (by omega) (by omega)
set_option maxRecDepth 100000 in
set_option maxHeartbeats 1600000 in
theorem operand13_any (c : Nat) (t : ByteArray) (w : World) (hc : c < 41) (hw : t.size = widthN (shapeN c)) (h0 : 0 < t.size) :
    Calls Tryd.prog 38 #[.int .i64 c, .string t] w fun e w' => e = .returned (.int .i64 (valueN (shapeN c) (leN t.data.toList))) ∧ w' = w := by
  have hle : t.size ≤ 8 := by have := widthN_cases (shapeN c); omega
  have hlen : t.data.toList.length = t.size := Array.length_toList
  go_enter Tryd.func38, Tryd.ntmps38
  go_wp2
  go_loopw [5, 6] (fun n i wr => ∃ k : Nat, i = .int .i64 ((k : Int) - 1) ∧ k ≤ t.size ∧ n = .int .u64 (leN (t.data.toList.drop k)) ∧ Hid (wr = w)) (fun _ i _ => (intOf i + 1).toNat)
  case atStart => exact ⟨t.size, by go_num, Nat.le_refl _, by rw [List.drop_eq_nil_of_le (by omega)]; rfl, rfl⟩
  case round =>
    obtain ⟨k, rfl, hk, rfl, hwr⟩ := hrel
    obtain rfl := hwr.out
    cases k with
    | succ j =>
      have hlt := leN_lt (t.data.toList.drop (j + 1))
      have hj : j < t.data.toList.length := by omega
      have hdr := leN_drop t.data.toList j hj
      have e1 : ((j + 1 : Nat) : Int) - 1 = (j : Int) := by omega
      rw [e1]
      go_wp2
      go_roundw
      case rel =>
        refine ⟨j, rfl, by omega, ?_, trivial⟩
        have hq : leN (t.data.toList.drop (j + 1)) < 256 ^ 7 := Nat.lt_of_lt_of_le hlt (Nat.pow_le_pow_right (by omega) (by rw [List.length_drop]; omega))
        have hb := t[j].toNat_lt
        rw [hdr]
        generalize leN (t.data.toList.drop (j + 1)) = q at *
        have hb2 : t.data.toList[j].toNat = t[j].toNat := rfl
        rw [hb2]
        generalize t[j].toNat = b at *
        rw [u64_in (256 * (q : Int)) (by omega) (by omega), u64_in (b : Int) (by omega) (by omega), u64_in _ (by omega) (by omega)]
        congr 1
      case measure => first | (simp [intOf]; done) | (simp [intOf]; omega)
    | zero =>
      go_wp2_with (go_at_call 39; refine (range13_any _ _).mono ?_; rintro e w3 ⟨rfl, h3⟩; rw [h3]; clear h3 w3)
      all_goals go_ret
      all_goals refine ⟨ret_int ?_, rfl⟩
      all_goals first | exact val_neg c t (widthN (shapeN c) - 1) (by omega) (by omega) hc hw (by assumption) (by assumption) (by assumption) | exact val_pos c t (widthN (shapeN c) - 1) (by omega) (by omega) hc hw (fun h7 h8 => by first | assumption | omega)
end Go.Proofs.YtbigllcononkbaaDoor
