/- The walks of asm's small functions: bytes, leads, named, end. -/
import Derived.Test.YtbigllcononkbaaDoorC4
import Derived.Test.YtbigllcononkbaaDoorL5
namespace Go.Proofs.YtbigllcononkbaaDoor
open Go Go.RowKit

theorem fits_zero (c : Nat) : fitsB (shapeN c) 0 = true := by
  have := shapeN_le c
  generalize shapeN c = a at *
  obtain rfl | rfl | rfl | rfl | rfl | rfl | rfl : a = 0 ∨ a = 1 ∨ a = 2 ∨ a = 3 ∨ a = 4 ∨ a = 5 ∨ a = 6 := by omega
  all_goals decide
set_option maxRecDepth 100000 in
set_option maxHeartbeats 400000 in
theorem bytes_any (c : Nat) (hc : c < 41) (w : World) (hT : Tab w) :
    Calls Tryd.prog 11 #[.int .i64 c] w fun e w' => e = .returned (.int .i64 (1 + widthN (shapeN c) : Nat)) ∧ Below w.heap.size w w' := by
  have HT := Lib.hid hT
  clear hT
  have HE : Hid (Calls Tryd.prog 26 #[.slice (some ⟨w.heap.size, 0, none⟩) 1 1] (w.alloc (.cells #[.int .i64 c, .int .i64 0] 35)) (EncPost (w.alloc (.cells #[.int .i64 c, .int .i64 0] 35)) [⟨c, 0⟩])) :=
    encode_any _ [⟨c, 0⟩] _ ⟨by simp, by intro x hx; simp at hx; subst hx; exact ⟨hc, by simp [Ins.in64]⟩, .inr ⟨w.heap.size, 1, rfl, by simp, fun i x hx => by
      cases i with
      | zero => simp at hx; subst hx; exact ⟨by rw [World.cell?_alloc_at _ _ _ _ rfl]; rfl, by rw [World.cell?_alloc_at _ _ _ _ rfl]; rfl⟩
      | succ i => simp at hx⟩⟩ (HT.out.below ((Below.refl _ _).alloc (Nat.le_refl _) _))
  have hr : encR [⟨c, 0⟩] [] = .ok (Ins.enc ⟨c, 0⟩) := by
    have e := encR_ok [⟨c, 0⟩] [] (by intro x hx; simp at hx; subst hx; exact ⟨hc, fits_zero c⟩) (by simp [encAll, enc_length]; unfold Ins.len Ins.w; have := widthN_cases (shapeN c); simp only; omega)
    simpa [encAll] using e
  have HR := Lib.hid hr
  clear hr
  have hl : (Ins.enc ⟨c, 0⟩).length = 1 + widthN (shapeN c) := enc_length _
  have HL := Lib.hid hl
  clear hl
  go_enter Tryd.func11, Tryd.ntmps11
  go_wp2_with ((go_at_call 26; refine HE.out.mono ?_; rintro e w' ⟨hb, he⟩; rw [HR.out] at he; obtain rfl := he))
  go_ret
  exact ⟨by rw [← HL.out]; rfl, ((Below.refl _ _).alloc (Nat.le_refl _) _).trans (hb.mono (by simp))⟩
set_option maxHeartbeats 400000 in
theorem leads_any (c : Nat) (w : World) :
    Calls Tryd.prog 13 #[.int .i64 c] w fun e w' => e = .returned (.bool (leadsB c)) ∧ w' = w := by
  by_cases h : c = 24
  · subst h
    go_enter Tryd.func13, Tryd.ntmps13
    go_wp2
    go_ret
    exact ⟨rfl, rfl⟩
  by_cases h2 : c = 25
  · subst h2
    go_enter Tryd.func13, Tryd.ntmps13
    go_wp2
    go_ret
    exact ⟨rfl, rfl⟩
  · have h3 : ((c : Int) == 24) = false := by simp; omega
    have h4 : ((c : Int) == 25) = false := by simp; omega
    go_enter Tryd.func13, Tryd.ntmps13
    go_wp2
    go_ret
    refine ⟨ret_bool ?_, rfl⟩
    simp only [leadsB, h, h2, false_or]
    rw [Bool.eq_iff_iff]
    simp
    omega
set_option maxHeartbeats 400000 in
theorem end_any (s : ByteArray) (at' : Int) (w : World) (h0 : 0 ≤ at') (h1 : at' ≤ 140737488355328) (h2 : s.size ≤ 140737488351232) :
    Calls Tryd.prog 61 #[.agg #[.string s, .int .i64 at']] w fun e w' => e = .returned (.int .i64 (at' + s.size)) ∧ Below w.heap.size w w' := by
  go_enter Tryd.func61, Tryd.ntmps61
  go_wp2
  go_ret
  exact ⟨rfl, (Below.refl _ _).alloc (Nat.le_refl _) _⟩
set_option maxHeartbeats 1600000 in
theorem named_any (s : ByteArray) (w : World) (h2 : s.size ≤ 140737488351232) :
    Calls Tryd.prog 42 #[.string s] w fun e w' => e = .returned (.bool (nameB s.data.toList)) ∧ w' = w := by
  go_enter Tryd.func42, Tryd.ntmps42
  go_wp2
  go_loop [7] (fun i => ∃ k : Nat, k ≤ s.size ∧ i = .int .i64 k ∧ Hid (∀ m (h : m < s.size), m < k → charOk m s[m] = true)) (fun i => s.size - (intOf i).toNat)
  case atStart => exact ⟨0, by omega, rfl, fun m _ h => by omega⟩
  case round =>
    obtain ⟨k, hk, rfl, HK⟩ := hrel
    by_cases hlt : k < s.size
    · cases hc : charOk k s[k] with
      | true =>
        have hc' := (charOk_iff _ _).1 hc
        have hn : Hid (∀ m (h : m < s.size), m < k + 1 → charOk m s[m] = true) := fun m h hm => by
          rcases Nat.lt_succ_iff_lt_or_eq.1 hm with h' | rfl
          · exact HK.out m h h'
          · exact hc
        clear hc HK
        go_wp2
        all_goals first | exact ⟨⟨k + 1, by omega, by go_num, hn⟩, by simp [intOf]; omega⟩ | (simp only [beq_iff_eq, beq_eq_false_iff_ne, ne_eq] at *; exfalso; omega)
      | false =>
        have hc' : ¬ ((s[k].toNat = 95 ∨ (97 ≤ s[k].toNat ∧ s[k].toNat ≤ 122) ∨ (65 ≤ s[k].toNat ∧ s[k].toNat ≤ 90)) ∨ (0 < k ∧ 48 ≤ s[k].toNat ∧ s[k].toNat ≤ 57)) := fun h => by rw [(charOk_iff _ _).2 h] at hc; cases hc
        have hn : Hid (nameB s.data.toList = false) := nameB_not _ k s[k] (by simp [hlt]; rfl) hc
        clear hc HK
        go_wp2
        all_goals go_ret
        all_goals exact ⟨by rw [hn.out]; rfl, rfl⟩
    · have hn : Hid (nameB s.data.toList = (!s.data.toList.isEmpty && decide (s.data.toList.length ≤ 16))) := nameB_of _ fun i b hb => by
        have hi : i < s.size := by
          rcases Nat.lt_or_ge i s.size with h | h
          · exact h
          · simp [List.getElem?_eq_none (show s.data.toList.length ≤ i by simpa using h)] at hb
        have : b = s[i] := by
          rw [List.getElem?_eq_getElem (by simpa using hi)] at hb
          simp at hb
          rw [← hb]; rfl
        subst this
        exact HK.out i hi (by omega)
      have hl := ByteArray.toList_eq s
      have HL := Lib.hid hl
      clear hl
      by_cases he : s.toList = []
      · have hz : Hid (nameB s.data.toList = false) := by
          show nameB _ = false
          rw [← HL.out, he]; rfl
        clear HK hn
        go_wp2
        go_ret
        exact ⟨by rw [hz.out]; rfl, rfl⟩
      · have hz : Hid (nameB s.data.toList = decide (s.size ≤ 16)) := by
          show nameB _ = _
          have hne : s.data.toList.isEmpty = false := by
            rw [← HL.out]
            cases hq : s.toList with
            | nil => exact absurd hq he
            | cons a t => rfl
          rw [hn.out, hne, Array.length_toList]
          rfl
        have hbe : (!s.toList.isEmpty) = true := by simpa using he
        clear HK hn
        go_wp2
        go_ret
        exact ⟨ret_bool (by rw [hz.out]; simp; omega), rfl⟩
end Go.Proofs.YtbigllcononkbaaDoor
