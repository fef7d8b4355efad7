/- Plain law of the definition's numbers: a text is a number of the definition just where it is one of the program, and they are the same. -/
import Derived.Test.YtbigllcononkbaaDoorL4
namespace Go.Proofs.YtbigllcononkbaaDoor
open Go

def digB (b : UInt8) : Bool := decide (48 ≤ b.toNat) && decide (b.toNat ≤ 57)
/-- The number that digits spell. -/
def decV (l : List UInt8) : Nat := l.foldl (fun n b => n * 10 + (b.toNat - 48)) 0
theorem decV_snoc (l : List UInt8) (b : UInt8) : decV (l ++ [b]) = decV l * 10 + (b.toNat - 48) := by simp [decV, List.foldl_append]
/-- A number without a sign. -/
def natF (l : List UInt8) : Option Int :=
  if l = [] ∨ 19 < l.length ∨ (1 < l.length ∧ l.head? = some 48) then none
  else if l.all digB = true then (if decV l ≤ 9223372036854775807 then some (decV l) else none) else none
def minText : List UInt8 := [45, 57, 50, 50, 51, 51, 55, 50, 48, 51, 54, 56, 53, 52, 55, 55, 53, 56, 48, 56]
/-- A number. -/
def numF : List UInt8 → Option Int
  | [] => none
  | b :: t => if b :: t = minText then some (-9223372036854775808) else if b = 45 ∧ t ≠ [] then (match numF t with | some n => if 0 < n then some (-n) else none | none => none) else natF (b :: t)

theorem decV_digits (u : Nat) : decV (Lib.decDigits u) = u := by
  induction u using Nat.strongRecOn with
  | ind u ih =>
    rw [Lib.decDigits]
    split
    · rename_i h
      simp only [decV, List.foldl_cons, List.foldl_nil, digit_nat u h]
      omega
    · rename_i h
      rw [decV_snoc, ih (u / 10) (by omega), digit_nat (u % 10) (by omega)]
      omega
theorem digits_all (u : Nat) : (Lib.decDigits u).all digB = true := by
  rw [List.all_eq_true]
  intro b hb
  have := dec_digits u b hb
  simp [digB, this]
theorem digits_len : ∀ (k u : Nat), u < 10 ^ (k + 1) → (Lib.decDigits u).length ≤ k + 1
  | 0, u, h => by
    rw [Lib.decDigits, dif_pos (by simpa using h)]
    simp
  | k + 1, u, h => by
    rw [Lib.decDigits]
    split
    · simp
    · have := digits_len k (u / 10) (by rw [Nat.pow_succ] at h; omega)
      simp
      omega
theorem digits_head (u : Nat) (h : 1 < (Lib.decDigits u).length) : (Lib.decDigits u).head? ≠ some 48 := by
  induction u using Nat.strongRecOn with
  | ind u ih =>
    rw [Lib.decDigits] at h ⊢
    split at h
    · simp at h
    · rename_i hu
      rw [dif_neg hu]
      by_cases h10 : u / 10 < 10
      · rw [Lib.decDigits, dif_pos h10]
        simp only [List.cons_append, List.head?_cons, ne_eq, Option.some.injEq]
        intro e
        have := congrArg UInt8.toNat e
        rw [digit_nat _ h10] at this
        simp at this
        omega
      · have hl : 1 < (Lib.decDigits (u / 10)).length := by
          rw [Lib.decDigits, dif_neg h10]
          have : (Lib.decDigits (u / 10 / 10)) ≠ [] := dec_ne _
          have := List.length_pos_iff.2 this
          simp
          omega
        have := ih (u / 10) (by omega) hl
        rw [List.head?_append]
        cases hd : (Lib.decDigits (u / 10)).head? with
        | none => exact absurd (List.head?_eq_none_iff.1 hd) (dec_ne _)
        | some c => rw [hd] at this; simpa using this
theorem natF_digits (u : Nat) (h : u ≤ 9223372036854775807) : natF (Lib.decDigits u) = some (u : Int) := by
  have hl := digits_len 18 u (by omega)
  unfold natF
  rw [if_neg, if_pos (digits_all u), decV_digits, if_pos h]
  rintro (h1 | h1 | ⟨h1, h2⟩)
  · exact dec_ne u h1
  · omega
  · exact digits_head u h1 h2
theorem snoc_ind {P : List UInt8 → Prop} (h0 : P []) (h1 : ∀ p d, P p → P (p ++ [d])) : ∀ l, P l := by
  have key : ∀ n (l : List UInt8), l.length = n → P l := by
    intro n
    induction n with
    | zero => intro l h; rw [List.length_eq_zero_iff.1 h]; exact h0
    | succ n ih =>
      intro l h
      rcases List.eq_nil_or_concat l with rfl | ⟨p, d, rfl⟩
      · exact h0
      · rw [List.concat_eq_append] at h ⊢
        exact h1 p d (ih p (by simpa using h))
  exact fun l => key _ l rfl
theorem decV_pos : ∀ (l : List UInt8), l.all digB = true → l ≠ [] → l.head? ≠ some 48 → 0 < decV l := by
  refine snoc_ind (fun _ h => absurd rfl h) fun p d ih => ?_
  · intro ha _ hh
    rw [decV_snoc]
    simp only [List.all_append, Bool.and_eq_true, List.all_cons, List.all_nil, Bool.and_true, digB, decide_eq_true_eq] at ha
    cases p with
    | nil =>
      simp only [List.nil_append, List.head?_cons, ne_eq, Option.some.injEq] at hh
      have : d.toNat ≠ 48 := fun e => hh (UInt8.toNat_inj.1 e)
      simp [decV]
      omega
    | cons c p =>
      have := ih (by simpa [digB] using ha.1) (by simp) (by simpa using hh)
      omega
/-- Digits without a 0 ahead are their number's. -/
theorem digits_decV : ∀ (l : List UInt8), l.all digB = true → l ≠ [] → ¬ (1 < l.length ∧ l.head? = some 48) → Lib.decDigits (decV l) = l := by
  refine snoc_ind (fun _ h => absurd rfl h) fun p d ih => ?_
  · intro ha _ hh
    rw [decV_snoc]
    simp only [List.all_append, Bool.and_eq_true, List.all_cons, List.all_nil, Bool.and_true, digB, decide_eq_true_eq] at ha
    have hd : UInt8.ofNat (48 + (d.toNat - 48)) = d := by
      rw [show 48 + (d.toNat - 48) = d.toNat by omega]
      simp
    by_cases hp : p = []
    · subst hp
      have : decV [] = 0 := rfl
      rw [this, Lib.decDigits, dif_pos (by omega)]
      simp only [Nat.zero_mul, Nat.zero_add, List.nil_append]
      rw [hd]
    · have hpl := List.length_pos_iff.2 hp
      have hph : p.head? ≠ some 48 := fun e => hh ⟨by simp; omega, by rw [List.head?_append, e]; rfl⟩
      have hpa : p.all digB = true := by simpa [digB] using ha.1
      have h0 := decV_pos p hpa hp hph
      rw [Lib.decDigits, dif_neg (by omega)]
      have e1 : (decV p * 10 + (d.toNat - 48)) / 10 = decV p := by omega
      have e2 : (decV p * 10 + (d.toNat - 48)) % 10 = d.toNat - 48 := by omega
      rw [e1, e2, ih hpa hp (fun h => hph h.2), hd]
theorem natF_some {l : List UInt8} {n : Int} (h : natF l = some n) : 0 ≤ n ∧ n ≤ 9223372036854775807 ∧ l = Lib.decDigits n.toNat := by
  unfold natF at h
  split at h
  · cases h
  · rename_i hc
    split at h
    · rename_i ha
      split at h
      · rename_i hm
        cases h
        refine ⟨by omega, by omega, ?_⟩
        rw [Int.toNat_natCast]
        exact (digits_decV l ha (fun e => hc (.inl e)) (fun e => hc (.inr (.inr e)))).symm
      · cases h
    · cases h
theorem minText_itoa : Lib.itoa (-9223372036854775808) = minText := by
  have h : minText = 45 :: minText.tail := rfl
  have h2 := digits_decV minText.tail (by decide) (by decide) (by decide)
  have h3 : decV minText.tail = 9223372036854775808 := by decide
  rw [h3] at h2
  simp only [Lib.itoa]
  rw [if_pos (by omega), show (-9223372036854775808 : Int).natAbs = 9223372036854775808 by omega, h2, ← h]
/-- What is a number is its text. -/
theorem numF_itoa (l : List UInt8) : ∀ n : Int, numF l = some n → -9223372036854775808 ≤ n ∧ n ≤ 9223372036854775807 ∧ Lib.itoa n = l := by
  induction l with
  | nil => intro n h; cases h
  | cons b t ih =>
    intro n h
    rw [numF] at h
    split at h
    · rename_i hm
      cases h
      exact ⟨by omega, by omega, by rw [minText_itoa, hm]⟩
    · split at h
      · rename_i hb
        cases ht : numF t with
        | none => rw [ht] at h; cases h
        | some m =>
          rw [ht] at h
          simp only at h
          split at h
          · rename_i hm
            cases h
            obtain ⟨h1, h2, h3⟩ := ih m ht
            refine ⟨by omega, by omega, ?_⟩
            unfold Lib.itoa at h3 ⊢
            rw [if_neg (by omega)] at h3
            rw [if_pos (by omega), show (-m).natAbs = m.toNat by omega, h3, hb.1]
          · cases h
      · obtain ⟨h1, h2, h3⟩ := natF_some h
        refine ⟨by omega, h2, ?_⟩
        unfold Lib.itoa
        rw [if_neg (by omega), ← h3]
theorem numF_of (n : Int) (h0 : -9223372036854775808 ≤ n) (h1 : n ≤ 9223372036854775807) : numF (Lib.itoa n) = some n := by
  have hpos : ∀ m : Nat, m ≤ 9223372036854775807 → numF (Lib.decDigits m) = some (m : Int) := fun m hm => by
    cases hd : Lib.decDigits m with
    | nil => exact absurd hd (dec_ne _)
    | cons c r =>
      have hc := dec_digits m c (by rw [hd]; exact List.mem_cons_self)
      have h45 : c ≠ 45 := fun e => by subst e; simp at hc
      rw [numF, if_neg (fun e => h45 (by unfold minText at e; exact (List.cons.inj e).1)), if_neg (fun e => h45 e.1), ← hd]
      exact natF_digits m hm
  by_cases hm : n = -9223372036854775808
  · subst hm
    rw [minText_itoa]
    rfl
  · unfold Lib.itoa
    split
    · rename_i hn
      have hne : ¬ (45 :: Lib.decDigits n.natAbs = minText) := fun e => by
        have h2 : Lib.decDigits n.natAbs = minText.tail := (List.cons.inj e).2
        have h3 := congrArg decV h2
        rw [decV_digits] at h3
        have : decV minText.tail = 9223372036854775808 := by decide
        omega
      rw [numF, if_neg hne, if_pos ⟨rfl, dec_ne _⟩, hpos _ (by omega)]
      simp only
      rw [if_pos (by omega)]
      congr 1
      omega
    · rw [hpos _ (by omega)]
      congr 1
      omega
theorem numF_numB (l : List UInt8) : numF l = numB l := by
  cases h : numF l with
  | some n =>
    obtain ⟨h0, h1, h2⟩ := numF_itoa l n h
    rw [← h2, numB_itoa n h0 h1]
  | none =>
    cases h2 : numB l with
    | none => rfl
    | some n =>
      obtain ⟨h0, h1⟩ := numB_in64 l n h2
      rw [← numB_text l n h2, numF_of n h0 h1] at h
      cases h
end Go.Proofs.YtbigllcononkbaaDoor
