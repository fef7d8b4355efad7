/- Plain laws of names. -/
namespace Go.Proofs.YtbigllcononkbaaDoor
def isL (b : UInt8) : Bool := b.toNat == 95 || (decide (97 ≤ b.toNat) && decide (b.toNat ≤ 122)) || (decide (65 ≤ b.toNat) && decide (b.toNat ≤ 90))
def isD (b : UInt8) : Bool := decide (48 ≤ b.toNat) && decide (b.toNat ≤ 57)
def charOk (i : Nat) (b : UInt8) : Bool := isL b || (decide (0 < i) && isD b)
/-- Is a text a name? -/
def nameB (l : List UInt8) : Bool := (match l with | [] => false | b :: t => isL b && t.all fun c => isL c || isD c) && decide (l.length ≤ 16)
theorem charOk_iff (i : Nat) (b : UInt8) : charOk i b = true ↔ (b.toNat = 95 ∨ (97 ≤ b.toNat ∧ b.toNat ≤ 122) ∨ (65 ≤ b.toNat ∧ b.toNat ≤ 90)) ∨ (0 < i ∧ 48 ≤ b.toNat ∧ b.toNat ≤ 57) := by
  simp [charOk, isL, isD, or_assoc]
theorem nameB_of (l : List UInt8) (h : ∀ i b, l[i]? = some b → charOk i b = true) : nameB l = (!l.isEmpty && decide (l.length ≤ 16)) := by
  cases l with
  | nil => rfl
  | cons b t =>
    have h0 : isL b = true := by have := h 0 b rfl; simpa [charOk] using this
    have h1 : t.all (fun c => isL c || isD c) = true := by
      rw [List.all_eq_true]
      intro c hc
      obtain ⟨i, hi, rfl⟩ := List.getElem_of_mem hc
      have := h (i + 1) t[i] (by simp [hi])
      simpa [charOk] using this
    simp [nameB, h0, h1]
theorem nameB_not (l : List UInt8) (i : Nat) (b : UInt8) (hb : l[i]? = some b) (h : charOk i b = false) : nameB l = false := by
  cases l with
  | nil => simp at hb
  | cons c t =>
    cases i with
    | zero =>
      simp only [List.getElem?_cons_zero, Option.some.injEq] at hb
      subst hb
      have : isL c = false := by simpa [charOk] using h
      simp [nameB, this]
    | succ i =>
      simp only [List.getElem?_cons_succ] at hb
      have h2 : (isL b || isD b) = false := by simpa [charOk] using h
      have : t.all (fun c => isL c || isD c) = false := by
        rw [List.all_eq_false]
        exact ⟨b, List.mem_of_getElem? hb, by simp [h2]⟩
      simp [nameB, this]
end Go.Proofs.YtbigllcononkbaaDoor
