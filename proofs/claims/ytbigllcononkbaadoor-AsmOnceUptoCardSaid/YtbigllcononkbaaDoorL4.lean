/- Plain laws of numbers as texts. -/
import Derived.Lib.ParseIntB
import Derived.Lib.ItoaNum
namespace Go.Proofs.YtbigllcononkbaaDoor
open Go

/-- A text that is a number. -/
def numB (s : List UInt8) : Option Int := match Lib.parseIntB 64 s with | .ok n => if Lib.itoa n = s then some n else none | _ => none

theorem parseIntB_in64 (l : List UInt8) (v : Int) (h : Lib.parseIntB 64 l = .ok v) : -9223372036854775808 ≤ v ∧ v ≤ 9223372036854775807 := by
  cases l with
  | nil => simp [Lib.parseIntB] at h
  | cons c r =>
    simp only [Lib.parseIntB] at h
    split at h
    · cases h
    · cases h
    · rename_i u hu
      split at h
      · cases h
      · rename_i h1
        split at h
        · cases h
        · rename_i h2
          simp only [Lib.NumEnd.ok.injEq] at h
          subst h
          simp only [Nat.add_one_sub_one, Nat.reducePow, Nat.reduceSub] at h1 h2
          split <;> rename_i h3
          · have : ¬ 9223372036854775808 < u := fun h => h2 ⟨h3, h⟩
            omega
          · have : ¬ 9223372036854775808 ≤ u := fun h => h1 ⟨h3, h⟩
            omega
theorem parseUintM_append (M : Nat) : ∀ (xs : List UInt8) (acc : Nat) (ys : List UInt8), Lib.parseUintM M acc (xs ++ ys) = match Lib.parseUintM M acc xs with | .ok a => Lib.parseUintM M a ys | e => e
  | [], acc, ys => rfl
  | x :: xs, acc, ys => by
    simp only [List.cons_append, Lib.parseUintM]
    split
    · split
      · rfl
      · split
        · rfl
        · exact parseUintM_append M xs _ ys
    · rfl
theorem digit_nat (d : Nat) (h : d < 10) : (UInt8.ofNat (48 + d)).toNat = 48 + d := UInt8.toNat_ofNat_of_lt' (by simp only [UInt8.size]; omega)
theorem parse_dec (M : Nat) (hM : M ≤ 18446744073709551615) : ∀ u, u ≤ M → Lib.parseUintM M 0 (Lib.decDigits u) = .ok u := by
  intro u
  induction u using Nat.strongRecOn with
  | ind u ih =>
    intro hu
    rw [Lib.decDigits]
    split
    · rename_i h
      simp only [Lib.parseUintM, digit_nat u h]
      rw [if_pos (by omega), if_neg (by omega), if_neg (by omega)]
      simp
    · rename_i h
      rw [parseUintM_append, ih (u / 10) (by omega) (by omega)]
      simp only [Lib.parseUintM, digit_nat (u % 10) (by omega)]
      rw [if_pos (by omega), if_neg (by omega), if_neg (by omega)]
      congr 1
      omega
theorem dec_digits : ∀ u, ∀ b ∈ Lib.decDigits u, 48 ≤ b.toNat ∧ b.toNat ≤ 57 := by
  intro u
  induction u using Nat.strongRecOn with
  | ind u ih =>
    intro b hb
    rw [Lib.decDigits] at hb
    split at hb
    · rename_i h
      obtain rfl := List.mem_singleton.1 hb
      rw [digit_nat u h]; omega
    · rename_i h
      rcases List.mem_append.1 hb with hb | hb
      · exact ih (u / 10) (by omega) b hb
      · obtain rfl := List.mem_singleton.1 hb
        rw [digit_nat (u % 10) (by omega)]; omega
theorem dec_ne (u : Nat) : Lib.decDigits u ≠ [] := by
  rw [Lib.decDigits]
  split <;> simp
/-- A number's text is that number. -/
theorem numB_itoa (n : Int) (h0 : -9223372036854775808 ≤ n) (h1 : n ≤ 9223372036854775807) : numB (Lib.itoa n) = some n := by
  have key : Lib.parseIntB 64 (Lib.itoa n) = .ok n := by
    unfold Lib.itoa
    split
    · rename_i hn
      simp only [Lib.parseIntB]
      have e : Lib.parseUintB 64 (Lib.decDigits n.natAbs) = .ok n.natAbs := by
        rw [Lib.parseUintB, if_neg (dec_ne _)]
        exact parse_dec _ (by simp) _ (by simp; omega)
      rw [if_pos (by decide), e]
      simp only [show (45 : UInt8).toNat = 45 from rfl, not_true_eq_false, false_and, if_false, true_and, if_true]
      rw [if_neg (by simp; omega)]
      congr 1
      omega
    · rename_i hn
      cases hd : Lib.decDigits n.toNat with
      | nil => exact absurd hd (dec_ne _)
      | cons c r =>
        have hc := dec_digits n.toNat c (by rw [hd]; exact List.mem_cons_self)
        simp only [Lib.parseIntB]
        have e : Lib.parseUintB 64 (c :: r) = .ok n.toNat := by
          rw [← hd, Lib.parseUintB, if_neg (dec_ne _)]
          exact parse_dec _ (by simp) _ (by simp; omega)
        rw [if_neg (by omega), e]
        have h45 : ¬ c.toNat = 45 := by omega
        simp only [h45, not_false_eq_true, true_and, false_and, if_false]
        rw [if_neg (by simp; omega)]
        congr 1
        omega
  simp [numB, key]
theorem numB_in64 (s : List UInt8) (n : Int) (h : numB s = some n) : -9223372036854775808 ≤ n ∧ n ≤ 9223372036854775807 := by
  unfold numB at h
  split at h
  · rename_i v hv
    split at h
    · cases h; exact parseIntB_in64 _ _ hv
    · cases h
  · cases h
theorem numB_text (s : List UInt8) (n : Int) (h : numB s = some n) : Lib.itoa n = s := by
  unfold numB at h
  split at h
  · split at h
    · rename_i hv; cases h; exact hv
    · cases h
  · cases h
end Go.Proofs.YtbigllcononkbaaDoor
