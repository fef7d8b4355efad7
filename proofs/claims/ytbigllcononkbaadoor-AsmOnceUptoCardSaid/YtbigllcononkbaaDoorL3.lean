/- Plain laws of tokens: what a line's tokens are. -/
import Derived.Lib.IndexMore
import Derived.Lib.IndexBytes
namespace Go.Proofs.YtbigllcononkbaaDoor
open Go

def gapB (b : UInt8) : Bool := b == 32 || b == 9
theorem gapB_iff (b : UInt8) : gapB b = true ↔ b.toNat = 32 ∨ b.toNat = 9 := by
  simp only [gapB, Bool.or_eq_true, beq_iff_eq, ← UInt8.toNat_inj]
  rfl
/-- The tokens of a row of bytes from a place on, each with its place; 'cur' is what of a token stands ahead. -/
def tk : Nat → List UInt8 → List UInt8 → List (List UInt8 × Nat)
  | i, cur, [] => if cur = [] then [] else [(cur, i - cur.length)]
  | i, cur, b :: t => if gapB b = true then (if cur = [] then tk (i + 1) [] t else (cur, i - cur.length) :: tk (i + 1) [] t) else tk (i + 1) (cur ++ [b]) t
def cutHash (l : List UInt8) : List UInt8 := l.takeWhile (· != 35)
/-- A line's tokens, with their places in it. -/
def toksF (l : List UInt8) : List (List UInt8 × Nat) := tk 0 [] (cutHash l)

theorem cut_hash : ∀ l : List UInt8, (Lib.cut l [35]).1 = cutHash l := by
  intro l
  have key : ∀ l : List UInt8, (Lib.index l [35] = -1 ∧ cutHash l = l) ∨ (∃ i : Nat, Lib.index l [35] = i ∧ cutHash l = l.take i) := by
    intro l
    induction l with
    | nil => exact .inl ⟨rfl, rfl⟩
    | cons b t ih =>
      by_cases hb : b = 35
      · subst hb
        exact .inr ⟨0, by simp [Lib.index, List.isPrefixOf], by simp [cutHash]⟩
      · have hp : ([35] : List UInt8).isPrefixOf (b :: t) = false := by
          simp [List.isPrefixOf]
          exact fun h => hb h.symm
        have hc : cutHash (b :: t) = b :: cutHash t := by
          simp [cutHash, List.takeWhile_cons, hb]
        rcases ih with ⟨h1, h2⟩ | ⟨i, h1, h2⟩
        · left
          refine ⟨?_, by rw [hc, h2]⟩
          simp [Lib.index, hp, h1]
        · right
          refine ⟨i + 1, ?_, by rw [hc, h2]; rfl⟩
          have : ((i : Int) == -1) = false := by simp
          simp [Lib.index, hp, h1, this]
  rcases key l with ⟨h1, h2⟩ | ⟨i, h1, h2⟩
  · simp [Lib.cut, h1, h2]
  · simp [Lib.cut, h1, h2]
theorem cutHash_le (l : List UInt8) : (cutHash l).length ≤ l.length := (List.takeWhile_prefix _).length_le
/-- Places of tokens lie in the line. -/
theorem tk_bound : ∀ (l : List UInt8) (i : Nat) (cur : List UInt8), cur.length ≤ i → ∀ t ∈ tk i cur l, t.2 + t.1.length ≤ i + l.length ∧ t.1 ≠ []
  | [], i, cur, hi, t, ht => by
    simp only [tk] at ht
    split at ht
    · simp at ht
    · rename_i h
      simp at ht; subst ht
      exact ⟨by simp; omega, h⟩
  | b :: l, i, cur, hi, t, ht => by
    simp only [tk] at ht
    split at ht
    · split at ht
      · have := tk_bound l (i + 1) [] (by simp) t ht
        exact ⟨by simp; omega, this.2⟩
      · rename_i h
        rcases List.mem_cons.1 ht with rfl | ht
        · exact ⟨by simp; omega, h⟩
        · have := tk_bound l (i + 1) [] (by simp) t ht
          exact ⟨by simp; omega, this.2⟩
    · have := tk_bound l (i + 1) (cur ++ [b]) (by simp; omega) t ht
      exact ⟨by simp; omega, this.2⟩
theorem tk_count : ∀ (l : List UInt8) (i : Nat) (cur : List UInt8), (tk i cur l).length ≤ l.length + 1
  | [], i, cur => by simp only [tk]; split <;> simp
  | b :: l, i, cur => by
    have h1 := tk_count l (i + 1) []
    have h2 := tk_count l (i + 1) (cur ++ [b])
    simp only [tk]
    repeat' split
    all_goals (simp only [List.length_cons]; omega)
end Go.Proofs.YtbigllcononkbaaDoor
