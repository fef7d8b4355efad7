/- The walk of the statement AsmBack. -/
import Derived.Test.YtbigllcononkbaaDoorG4
import Derived.Test.YtbigllcononkbaaDoorF2
namespace Go.Proofs.YtbigllcononkbaaDoor
open Go Go.RowKit

theorem outT_len (beg mk : Int → Bool) : ∀ (xs : List Ins) (a : Nat), (∀ x ∈ xs, x.ok ∧ x.in64) → a + (encAll xs).length ≤ 512 → (outT beg mk xs a).length ≤ 60 * xs.length + 24
  | [], a, _, ha => by
    have := labelT_len mk a (by omega)
    simp only [outT, List.length_nil]
    omega
  | x :: xs, a, h, ha => by
    have e : encAll (x :: xs) = x.enc ++ encAll xs := rfl
    rw [e, List.length_append, enc_length] at ha
    have h1 := labelT_len mk a (by omega)
    have h2 := tailT_len beg x a (h x List.mem_cons_self).2
    have h3 := name_len x.c (h x List.mem_cons_self).1.1
    have h4 := outT_len beg mk xs (a + x.len) (fun y hy => h y (List.mem_cons_of_mem _ hy)) (by omega)
    simp only [outT, lineT, List.length_append, List.length_cons, List.length_nil]
    omega
theorem printF_len (s t : List UInt8) (h : printF s = .ok t) : t.length ≤ 1048576 := by
  unfold printF at h
  split at h
  · cases h
  · rename_i h5
    split at h
    · cases h
    · rename_i xs hd
      cases h
      obtain ⟨hs, hx⟩ := decF_enc s xs hd
      have h1 := length_enc xs
      have hl : (encAll xs).length = s.length := by rw [← hs]
      have := outT_len (begF xs s.length) (marksF (begF xs s.length) xs 0) xs 0 hx (by omega)
      omega
set_option maxRecDepth 100000 in
set_option maxHeartbeats 1600000 in
theorem asmBack_any (s : ByteArray) (w : World) (hE : Env w) (hs : s.size ≤ 1048576) :
    Calls Tryd.prog 3 #[.string s] w fun e w' => e = .returned (.bool true) ∧ Below w.heap.size w w' := by
  have HE := Lib.hid hE
  clear hE
  cases hp : printF s.data.toList with
  | error n =>
    have hd : n ≠ 0 ∧ ∀ w e w', DecPost w s.data.toList e w' → Below w.heap.size w w' ∧ ∃ k : Int, e = .returned (.tuple #[.slice none 0 0, .int .i64 n, .int .i64 k]) := by
      unfold printF at hp
      by_cases h5 : 512 < s.data.toList.length
      · rw [if_pos h5] at hp
        cases hp
        refine ⟨by decide, fun w e w' h => ⟨h.1, 0, ?_⟩⟩
        have := h.2
        rw [if_pos h5] at this
        exact this
      · rw [if_neg h5] at hp
        cases hd : decF s.data.toList with
        | none =>
          rw [hd] at hp
          cases hp
          refine ⟨by decide, fun w e w' h => ⟨h.1, ?_⟩⟩
          have := h.2
          rw [if_neg h5, hd] at this
          exact this
        | some xs => rw [hd] at hp; cases hp
    obtain ⟨hn, hd⟩ := hd
    have HD := Lib.hid hd
    have HP := Lib.hid hp
    have hn2 : (n == 0) = false := by simpa using hn
    have hn3 : (n != 0) = true := by simpa using hn
    clear hp hd
    go_enter Tryd.func3, Tryd.ntmps3
    go_wp2_with (first | (go_at_call 5; refine (print_any s _ HE.out hs).mono ?_; rintro e w1 ⟨hb1, he⟩; rw [HP.out] at he; obtain rfl := he) | (go_at_call 6; refine (decode13_any s _ (by omega)).mono ?_; rintro e w2 hd2; obtain ⟨hb2, k, rfl⟩ := HD.out _ _ _ hd2; clear hd2))
    go_ret
    exact ⟨rfl, hb1.trans (hb2.mono hb1.size)⟩
  | ok t =>
    have hd : ∀ w e w', DecPost w s.data.toList e w' → Below w.heap.size w w' ∧ ∃ v, e = .returned (.tuple #[v, .int .i64 0, .int .i64 0]) := by
      unfold printF at hp
      by_cases h5 : 512 < s.data.toList.length
      · rw [if_pos h5] at hp
        cases hp
      · rw [if_neg h5] at hp
        cases hd : decF s.data.toList with
        | none => rw [hd] at hp; cases hp
        | some xs =>
          intro w e w' h
          refine ⟨h.1, ?_⟩
          have := h.2
          rw [if_neg h5, hd] at this
          obtain ⟨v, h1, _⟩ := this
          exact ⟨v, h1⟩
    have ht : (⟨t.toArray⟩ : ByteArray).size ≤ 1048576 := by
      show (List.toArray t).size ≤ _
      simpa using printF_len _ _ hp
    have HPP : Hid (parseF (⟨t.toArray⟩ : ByteArray).data.toList = .ok s.data.toList) := by
      show parseF _ = _
      simpa using parse_print _ _ hp
    have HD := Lib.hid hd
    have HP := Lib.hid hp
    have hss : (⟨s.data.toList.toArray⟩ : ByteArray) = s := by simp
    have HSS := Lib.hid hss
    clear hp hd hss
    go_enter Tryd.func3, Tryd.ntmps3
    go_wp2_with (first | (go_at_call 5; refine (print_any s _ HE.out hs).mono ?_; rintro e w1 ⟨hb1, he⟩; rw [HP.out] at he; obtain rfl := he) | (go_at_call 6; refine (decode13_any s _ (by omega)).mono ?_; rintro e w2 hd2; obtain ⟨hb2, v, rfl⟩ := HD.out _ _ _ hd2; clear hd2) | (go_at_call 7; refine (parse_any ⟨t.toArray⟩ _ ((HE.out.grown hb1).grown hb2) ht).mono ?_; rintro e w3 ⟨hb3, he⟩; rw [HPP.out] at he; simp only [HSS.out] at he; obtain rfl := he))
    go_ret
    exact ⟨rfl, hb1.trans ((hb2.trans (hb3.mono hb2.size)).mono hb1.size)⟩
end Go.Proofs.YtbigllcononkbaaDoor
