/- The walks of the definition's small functions (layer 14): Name, leads, Words, Code. -/
import Derived.Test.YtbigllcononkbaaDoorR4
import Derived.Test.YtbigllcononkbaaDoorD3
namespace Go.Proofs.YtbigllcononkbaaDoor
open Go Go.RowKit

set_option maxRecDepth 100000 in
set_option maxHeartbeats 1600000 in
theorem name14_any (s : ByteArray) (w : World) (h2 : s.size ≤ 140737488351232) :
    Calls Tryd.prog 64 #[.string s] w fun e w' => e = .returned (.bool (nameB s.data.toList)) ∧ w' = w := by
  have hln : s.data.toList.length = s.size := Array.length_toList
  by_cases h0 : s.size < 1
  · have hn : nameB s.data.toList = false := by
      rw [List.length_eq_zero_iff.1 (show s.data.toList.length = 0 by omega)]; rfl
    have HN := Lib.hid hn
    clear hn hln
    go_enter Tryd.func64, Tryd.ntmps64
    go_wp2
    go_ret
    exact ⟨by rw [HN.out]; rfl, rfl⟩
  · by_cases h16 : 16 < s.size
    · have hn : nameB s.data.toList = false := by
        unfold nameB
        rw [hln, show decide (s.size ≤ 16) = false by simp; omega, Bool.and_false]
      have HN := Lib.hid hn
      clear hn hln
      go_enter Tryd.func64, Tryd.ntmps64
      go_wp2
      go_ret
      exact ⟨by rw [HN.out]; rfl, rfl⟩
    · go_enter Tryd.func64, Tryd.ntmps64
      go_wp2
      go_loop [3] (fun i => ∃ k : Nat, k ≤ s.size ∧ i = .int .i64 k ∧ Hid (∀ m (h : m < s.size), m < k → charOk m s[m] = true)) (fun i => s.size - (intOf i).toNat)
      case atStart => exact ⟨0, by omega, rfl, fun m _ h => by omega⟩
      case round =>
        obtain ⟨k, hk, rfl, HK⟩ := hrel
        by_cases hlt : k < s.size
        · have hcls : (((s[k].toNat : Int) == 95) = true ∧ 95 ≤ (s[k].toNat : Int) ∧ (s[k].toNat : Int) ≤ 95) ∨ (((s[k].toNat : Int) == 95) = false ∧ (97 ≤ (s[k].toNat : Int) ∧ (s[k].toNat : Int) ≤ 122)) ∨ (((s[k].toNat : Int) == 95) = false ∧ 65 ≤ (s[k].toNat : Int) ∧ (s[k].toNat : Int) ≤ 90) ∨
              (((s[k].toNat : Int) == 95) = false ∧ 48 ≤ (s[k].toNat : Int) ∧ (s[k].toNat : Int) ≤ 57) ∨ (((s[k].toNat : Int) == 95) = false ∧ 0 ≤ (s[k].toNat : Int) ∧ (s[k].toNat : Int) < 48) ∨ (((s[k].toNat : Int) == 95) = false ∧ 57 < (s[k].toNat : Int) ∧ (s[k].toNat : Int) < 65) ∨
              (((s[k].toNat : Int) == 95) = false ∧ 90 < (s[k].toNat : Int) ∧ (s[k].toNat : Int) < 95) ∨ (((s[k].toNat : Int) == 95) = false ∧ 95 < (s[k].toNat : Int) ∧ (s[k].toNat : Int) < 97) ∨ (((s[k].toNat : Int) == 95) = false ∧ 122 < (s[k].toNat : Int) ∧ (s[k].toNat : Int) < 256) := by
            have := s[k].toNat_lt
            simp only [beq_iff_eq, beq_eq_false_iff_ne, ne_eq]
            omega
          have hk0 : (k = 0 ∧ ((k : Int) == 0) = true) ∨ (0 < k ∧ ((k : Int) == 0) = false) := by
            simp only [beq_iff_eq, beq_eq_false_iff_ne, ne_eq]
            omega
          cases hc : charOk k s[k] with
          | true =>
            have hc' := (charOk_iff _ _).1 hc
            have hn : Hid (∀ m (h : m < s.size), m < k + 1 → charOk m s[m] = true) := fun m h hm => by
              rcases Nat.lt_succ_iff_lt_or_eq.1 hm with h' | rfl
              · exact HK.out m h h'
              · exact hc
            clear hc HK
            rcases hk0 with ⟨hk0, hk1⟩ | ⟨hk0, hk1⟩
            all_goals
              have HK0 := Lib.hid hk0
              clear hk0
              rcases hcls with ⟨h1, h2, h3⟩ | ⟨h1, h2, h3⟩ | ⟨h1, h2, h3⟩ | ⟨h1, h2, h3⟩ | ⟨h1, h2, h3⟩ | ⟨h1, h2, h3⟩ | ⟨h1, h2, h3⟩ | ⟨h1, h2, h3⟩ | ⟨h1, h2, h3⟩
              all_goals first
                | (exfalso; have := HK0.out; simp only [beq_iff_eq, beq_eq_false_iff_ne, ne_eq] at h1; omega)
                | (clear hc'; go_wp2; all_goals first | exact ⟨⟨k + 1, by omega, by go_num, hn⟩, by simp [intOf]; omega⟩ | (exfalso; simp only [Bool.not_eq_false', Bool.not_eq_true', decide_eq_true_eq, decide_eq_false_iff_not, beq_iff_eq, beq_eq_false_iff_ne, ne_eq] at *; omega))
          | false =>
            have hc' : ¬ ((s[k].toNat = 95 ∨ (97 ≤ s[k].toNat ∧ s[k].toNat ≤ 122) ∨ (65 ≤ s[k].toNat ∧ s[k].toNat ≤ 90)) ∨ (0 < k ∧ 48 ≤ s[k].toNat ∧ s[k].toNat ≤ 57)) := fun h => by rw [(charOk_iff _ _).2 h] at hc; cases hc
            have hn : Hid (nameB s.data.toList = false) := nameB_not _ k s[k] (by simp [hlt]; rfl) hc
            clear hc HK
            rcases hk0 with ⟨hk0, hk1⟩ | ⟨hk0, hk1⟩
            all_goals
              have HK0 := Lib.hid hk0
              clear hk0
              rcases hcls with ⟨h1, h2, h3⟩ | ⟨h1, h2, h3⟩ | ⟨h1, h2, h3⟩ | ⟨h1, h2, h3⟩ | ⟨h1, h2, h3⟩ | ⟨h1, h2, h3⟩ | ⟨h1, h2, h3⟩ | ⟨h1, h2, h3⟩ | ⟨h1, h2, h3⟩
              all_goals first
                | (exfalso; have := HK0.out; simp only [beq_iff_eq, beq_eq_false_iff_ne, ne_eq] at h1; omega)
                | (clear hc'; go_wp2; all_goals first | (go_ret; exact ⟨by rw [hn.out]; rfl, rfl⟩) | (exfalso; simp only [Bool.not_eq_false', Bool.not_eq_true', decide_eq_true_eq, decide_eq_false_iff_not, beq_iff_eq, beq_eq_false_iff_ne, ne_eq] at *; omega))
        · have hn : Hid (nameB s.data.toList = true) := by
            have := nameB_of s.data.toList fun i b hb => by
              have hi : i < s.size := by
                rcases Nat.lt_or_ge i s.size with h | h
                · exact h
                · simp [List.getElem?_eq_none (show s.data.toList.length ≤ i by simpa using h)] at hb
              have : b = s[i] := by
                rw [List.getElem?_eq_getElem (by simpa using hi)] at hb
                simp at hb
                rw [← hb]; rfl
              subst this
              exact HK.out i hi (by omega)
            show nameB _ = true
            rw [this, hln]
            cases hq : s.data.toList with
            | nil => rw [hq] at hln; simp at hln; omega
            | cons a t => simp; omega
          clear HK
          go_wp2
          go_ret
          exact ⟨by rw [hn.out]; rfl, rfl⟩
set_option maxHeartbeats 400000 in
theorem leads14_any (c : Nat) (w : World) :
    Calls Tryd.prog 67 #[.int .i64 c] w fun e w' => e = .returned (.bool (leadsB c)) ∧ w' = w := by
  by_cases h : c = 24
  · subst h
    go_enter Tryd.func67, Tryd.ntmps67
    go_wp2
    go_ret
    exact ⟨rfl, rfl⟩
  by_cases h2 : c = 25
  · subst h2
    go_enter Tryd.func67, Tryd.ntmps67
    go_wp2
    go_ret
    exact ⟨rfl, rfl⟩
  · have h3 : ((c : Int) == 24) = false := by simp; omega
    have h4 : ((c : Int) == 25) = false := by simp; omega
    go_enter Tryd.func67, Tryd.ntmps67
    go_wp2
    go_ret
    refine ⟨ret_bool ?_, rfl⟩
    simp only [leadsB, h, h2, false_or]
    rw [Bool.eq_iff_iff]
    simp
    omega
set_option maxRecDepth 100000 in
set_option maxHeartbeats 1600000 in
theorem words14_any (w : World) :
    Calls Tryd.prog 65 #[] w fun e w' => e = .returned (.slice (some ⟨w.heap.size, 0, none⟩) 41 41) ∧ w' = w.alloc (.cells wordsV 9) := by
  go_enter Tryd.func65, Tryd.ntmps65
  go_wp2
  go_ret
  exact ⟨rfl, rfl⟩
/-- The number of a word. -/
def codeV (s : List UInt8) : Int := match codeOf s with | some c => (c : Int) | none => -1
set_option maxRecDepth 100000 in
set_option maxHeartbeats 1600000 in
theorem code14_any (s : ByteArray) (w : World) (hs : s.size ≤ 1048576) :
    Calls Tryd.prog 48 #[.string s] w fun e w' => e = .returned (.int .i64 (codeV s.data.toList)) ∧ Below w.heap.size w w' := by
  go_enter Tryd.func48, Tryd.ntmps48
  go_wp2_with (go_at_call 65; refine (words14_any _).mono ?_; rintro e w' ⟨rfl, rfl⟩)
  have hnew := heap_new w (.cells wordsV 9)
  have hbel : Below w.heap.size w (w.alloc (.cells wordsV 9)) := (Below.refl _ _).alloc (Nat.le_refl _) _
  generalize w.alloc (.cells wordsV 9) = W at *
  obtain ⟨G, hG⟩ : ∃ G, w.heap.size = G := ⟨_, rfl⟩
  have HGE := Lib.hid hG
  rw [hG] at hnew hbel ⊢
  have hGl := heap_lt hnew
  have HNew := Lib.hid hnew
  have HB := Lib.hid hbel
  clear hnew hbel hG
  go_loop [4] (fun i => ∃ k : Nat, k ≤ 41 ∧ i = .int .i64 k ∧ Hid (∀ m, m < k → wordsL.getD m [] ≠ s.data.toList)) (fun i => 41 - (intOf i).toNat)
  case atStart => exact ⟨0, by omega, rfl, fun m h => by omega⟩
  case round =>
    obtain ⟨k, hk, rfl, HK⟩ := hrel
    by_cases hlt : k < 41
    · have hkl : k < wordsL.length := by rw [words_length]; exact hlt
      have hcell : W.cell? ⟨G, k, none⟩ = some (.string ⟨(wordsL.getD k []).toArray⟩) := by
        rw [box_cell HNew.out k]
        simp [wordsV, hkl, List.getD]
      have HCell := hcell
      clear hcell
      by_cases he : wordsL.getD k [] = s.data.toList
      · have hc : codeOf s.data.toList = some k := by
          rw [codeOf, List.findIdx?_eq_some_iff_getElem]
          refine ⟨hkl, by simpa [List.getD, hkl] using he.symm, fun j hj => ?_⟩
          have := HK.out j hj
          have hjl : j < wordsL.length := by omega
          simp only [List.getD_eq_getElem?_getD, List.getElem?_eq_getElem hjl, Option.getD_some] at this
          simp only [decide_eq_true_eq]
          exact fun e => this e.symm
        have HC := Lib.hid hc
        have hs : (⟨(wordsL.getD k []).toArray⟩ : ByteArray) = s := by rw [he]
        rw [hs] at HCell
        have heq : (s.toList == s.toList) = true := by simp
        clear he hc hs HK
        go_wp2
        go_ret
        exact ⟨by rw [codeV, HC.out]; rfl, HGE.out ▸ HB.out⟩
      · have hne : ((⟨(wordsL.getD k []).toArray⟩ : ByteArray).toList == s.toList) = false := by
          rw [beq_eq_false_iff_ne, ByteArray.toList_eq, ByteArray.toList_eq]
          exact he
        have HK2 : Hid (∀ m, m < k + 1 → wordsL.getD m [] ≠ s.data.toList) := fun m hm => by
          rcases Nat.lt_succ_iff_lt_or_eq.1 hm with h | rfl
          · exact HK.out m h
          · exact he
        generalize (⟨(wordsL.getD k []).toArray⟩ : ByteArray) = q at *
        clear he HK
        go_wp2
        go_round
        case rel => exact ⟨k + 1, by omega, by go_num, HK2⟩
        case measure => simp [intOf]; omega
    · have hc : codeOf s.data.toList = none := by
        rw [codeOf, List.findIdx?_eq_none_iff]
        intro x hx
        obtain ⟨m, hm, rfl⟩ := List.getElem_of_mem hx
        have := HK.out m (by rw [words_length] at hm; omega)
        simp only [List.getD_eq_getElem?_getD, List.getElem?_eq_getElem hm, Option.getD_some] at this
        simp only [decide_eq_false_iff_not]
        exact fun e => this e.symm
      have HC := Lib.hid hc
      clear HK hc
      go_wp2
      go_ret
      exact ⟨by rw [codeV, HC.out]; rfl, HGE.out ▸ HB.out⟩
end Go.Proofs.YtbigllcononkbaaDoor
