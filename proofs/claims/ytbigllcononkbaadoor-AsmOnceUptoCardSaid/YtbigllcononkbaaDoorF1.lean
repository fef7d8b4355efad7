/- Plain law: the tokens and lines of what asm.Print writes. -/
import Derived.Test.YtbigllcononkbaaDoorL7
namespace Go.Proofs.YtbigllcononkbaaDoor
open Go

/-- A byte that is no gap, no line's end and no remark. -/
def inkB (b : UInt8) : Bool := !(gapB b) && b != 10 && b != 35
def ink (l : List UInt8) : Prop := ∀ b ∈ l, inkB b = true
theorem ink_gap {l : List UInt8} (h : ink l) : ∀ b ∈ l, gapB b = false := fun b hb => by
  have := h b hb
  simp only [inkB, Bool.and_eq_true, Bool.not_eq_true'] at this
  exact this.1.1
theorem ink_hash {l : List UInt8} (h : ink l) : ∀ b ∈ l, b ≠ 35 := fun b hb => by
  have := h b hb
  simp only [inkB, Bool.and_eq_true, bne_iff_ne] at this
  exact this.2
theorem ink_end {l : List UInt8} (h : ink l) : ∀ b ∈ l, b ≠ 10 := fun b hb => by
  have := h b hb
  simp only [inkB, Bool.and_eq_true, bne_iff_ne] at this
  exact this.1.2
theorem ink_append {l m : List UInt8} (h : ink l) (k : ink m) : ink (l ++ m) := fun b hb => (List.mem_append.1 hb).elim (h b) (k b)
theorem tk_word : ∀ (w : List UInt8) (i : Nat) (cur r : List UInt8), (∀ b ∈ w, gapB b = false) → tk i cur (w ++ r) = tk (i + w.length) (cur ++ w) r
  | [], i, cur, r, _ => by simp
  | b :: w, i, cur, r, h => by
    rw [List.cons_append, tk, if_neg (by rw [h b List.mem_cons_self]; decide), tk_word w (i + 1) (cur ++ [b]) r fun x hx => h x (List.mem_cons_of_mem _ hx)]
    congr 1
    · simp; omega
    · simp
theorem cut_ink {l : List UInt8} (h : ∀ b ∈ l, b ≠ 35) : cutHash l = l := by
  unfold cutHash
  induction l with
  | nil => rfl
  | cons b l ih =>
    have hb : (b != 35) = true := by simpa using h b List.mem_cons_self
    rw [List.takeWhile_cons, if_pos hb, ih fun x hx => h x (List.mem_cons_of_mem _ hx)]
theorem toks_nil : toksF [] = [] := rfl
theorem toks_one {w : List UInt8} (h : ink w) (hn : w ≠ []) : toksF w = [(w, 0)] := by
  rw [toksF, cut_ink (ink_hash h)]
  have := tk_word w 0 [] [] (ink_gap h)
  rw [List.append_nil, List.nil_append] at this
  rw [this, tk, if_neg hn]
  simp
theorem toks_two {w v : List UInt8} (h : ink w) (k : ink v) (hn : w ≠ []) (kn : v ≠ []) : toksF (w ++ [32] ++ v) = [(w, 0), (v, w.length + 1)] := by
  rw [toksF, cut_ink (by
    intro b hb
    simp only [List.mem_append, List.mem_singleton] at hb
    rcases hb with (hb | rfl) | hb
    · exact ink_hash h b hb
    · decide
    · exact ink_hash k b hb), List.append_assoc, tk_word w 0 [] _ (ink_gap h), List.singleton_append, tk, if_pos (by decide), if_neg (by simpa using hn)]
  have := tk_word v (0 + w.length + 1) [] [] (ink_gap k)
  rw [List.append_nil, List.nil_append] at this
  rw [this, tk, if_neg kn]
  simp
theorem split_line : ∀ (l t : List UInt8), (∀ b ∈ l, b ≠ 10) → splitL (l ++ 10 :: t) = l :: splitL t
  | [], t, _ => by simp [splitL]
  | b :: l, t, h => by
    rw [List.cons_append, splitL, if_neg (h b List.mem_cons_self), split_line l t fun x hx => h x (List.mem_cons_of_mem _ hx)]
def nameOf' (c : Nat) : List UInt8 := wordsL.getD c []
theorem names_ok : ∀ c, c < 41 → (nameOf' c).all inkB = true ∧ nameOf' c ≠ [] ∧ Lib.hasSuffix (nameOf' c) [58] = false ∧ codeOf (nameOf' c) = some c := by unfold nameOf'; decide +kernel
theorem digit_ink {b : UInt8} (h : 48 ≤ b.toNat ∧ b.toNat ≤ 57) : inkB b = true := by
  have h1 : gapB b = false := by
    rw [← Bool.not_eq_true]
    intro e
    have := (gapB_iff b).1 e
    omega
  have h2 : b ≠ 10 := by rintro rfl; simp at h
  have h3 : b ≠ 35 := by rintro rfl; simp at h
  simp [inkB, h1, h2, h3]
theorem ink_itoa (n : Int) : ink (Lib.itoa n) := by
  intro b hb
  unfold Lib.itoa at hb
  split at hb
  · rcases List.mem_cons.1 hb with rfl | hb
    · decide
    · exact digit_ink (dec_digits _ b hb)
  · exact digit_ink (dec_digits _ b hb)
theorem itoa_ne (n : Int) : Lib.itoa n ≠ [] := by
  unfold Lib.itoa
  split
  · simp
  · exact dec_ne _
theorem dec_len (u : Nat) (h : u < 1000) : (Lib.decDigits u).length ≤ 3 := by
  rw [Lib.decDigits]
  split
  · simp
  · rw [Lib.decDigits]
    split
    · simp
    · rw [Lib.decDigits]
      split
      · simp
      · omega
/-- A place's label. -/
def lab (a : Nat) : List UInt8 := [76] ++ Lib.itoa a
theorem itoa_nat (a : Nat) : Lib.itoa (a : Int) = Lib.decDigits a := by
  unfold Lib.itoa
  rw [if_neg (by omega), Int.toNat_natCast]
theorem lab_ink (a : Nat) : ink (lab a) := ink_append (by intro b hb; simp at hb; subst hb; decide) (ink_itoa _)
theorem lab_name (a : Nat) (h : a < 1000) : nameB (lab a) = true := by
  have h1 := dec_len a h
  have h2 : (Lib.decDigits a).all (fun c => isL c || isD c) = true := by
    rw [List.all_eq_true]
    intro b hb
    have := dec_digits a b hb
    simp [isD, this]
  rw [lab, itoa_nat, List.singleton_append]
  simp only [nameB, h2, List.length_cons]
  simp only [Bool.and_true, Bool.and_eq_true, decide_eq_true_eq]
  exact ⟨by decide, by omega⟩
theorem lab_inj {a b : Nat} (ha : a < 1000) (hb : b < 1000) (h : lab a = lab b) : a = b := by
  have h1 : Lib.itoa (a : Int) = Lib.itoa (b : Int) := by simpa [lab] using h
  have h2 := numB_itoa a (by omega) (by omega)
  have h3 := numB_itoa b (by omega) (by omega)
  rw [h1, h3] at h2
  have := Option.some.inj h2
  omega
theorem lab_num (a : Nat) : numB (lab a) = none := by
  cases h : numB (lab a) with
  | none => rfl
  | some n =>
    have h1 := numB_text _ _ h
    unfold Lib.itoa at h1
    split at h1
    · simp [lab] at h1
    · have h2 := dec_digits n.toNat 76 (by rw [h1]; simp [lab])
      simp at h2
theorem lab_suffix (a : Nat) : Lib.hasSuffix (lab a ++ [58]) [58] = true ∧ Lib.trimSuffix (lab a ++ [58]) [58] = lab a := by
  have h : Lib.hasSuffix (lab a ++ [58]) [58] = true := by
    unfold Lib.hasSuffix
    simp
  refine ⟨h, ?_⟩
  unfold Lib.trimSuffix
  simp [h]
end Go.Proofs.YtbigllcononkbaaDoor
