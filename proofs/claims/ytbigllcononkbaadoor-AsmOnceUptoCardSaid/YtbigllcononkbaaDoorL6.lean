/- Plain law: what a program's text comes to (asm.Parse), and lines of a text. -/
import Derived.Test.YtbigllcononkbaaDoorL5
import Derived.Lib.Split
namespace Go.Proofs.YtbigllcononkbaaDoor
open Go

/-- The lines of a text. -/
def splitL : List UInt8 → List (List UInt8)
  | [] => [[]]
  | b :: t => if b = 10 then [] :: splitL t else match splitL t with | [] => [[b]] | x :: xs => (b :: x) :: xs
theorem splitL_ne (l : List UInt8) : splitL l ≠ [] := by
  cases l with
  | nil => simp [splitL]
  | cons b t => simp only [splitL]; split; · simp
                · split <;> simp
theorem index_ten (b : UInt8) (t : List UInt8) : Lib.index (b :: t) [10] = if b = 10 then 0 else if Lib.index t [10] = -1 then -1 else Lib.index t [10] + 1 := by
  by_cases h : b = 10
  · simp [Lib.index, h, List.isPrefixOf]
  · have hp : ([10] : List UInt8).isPrefixOf (b :: t) = false := by
      simp [List.isPrefixOf]
      exact fun e => h e.symm
    simp [Lib.index, hp, h]
theorem split_index (l : List UInt8) : (Lib.index l [10] = -1 ∧ splitL l = [l] ∧ l.count 10 = 0) ∨ ∃ i : Nat, Lib.index l [10] = i ∧ i < l.length ∧ splitL l = l.take i :: splitL (l.drop (i + 1)) ∧ l.count 10 = (l.drop (i + 1)).count 10 + 1 := by
  induction l with
  | nil => exact .inl ⟨rfl, rfl, rfl⟩
  | cons b t ih =>
    rw [index_ten]
    by_cases h : b = 10
    · subst h
      exact .inr ⟨0, by simp, by simp, by simp [splitL], by simp⟩
    · rcases ih with ⟨h1, h2, h3⟩ | ⟨i, h1, h2, h3, h4⟩
      · exact .inl ⟨by simp [h, h1], by simp [splitL, h, h2], by simp [List.count_cons, h, h3]⟩
      · right
        have : ¬ ((i : Int) = -1) := by omega
        refine ⟨i + 1, by simp [h, h1, this], by simp; omega, ?_, ?_⟩
        · simp only [splitL, h, if_false, h3]
          rfl
        · simp only [List.drop_succ_cons, ← h4]
          simp [List.count_cons, h]
theorem splitK_lines : ∀ (k : Nat) (l : List UInt8), l.count 10 ≤ k → Lib.splitK [10] 0 k l = splitL l
  | 0, l, h => by
    rcases split_index l with ⟨_, h2, _⟩ | ⟨i, _, _, _, h4⟩
    · rw [h2]; rfl
    · omega
  | k + 1, l, h => by
    rcases split_index l with ⟨h1, h2, _⟩ | ⟨i, h1, h2, h3, h4⟩
    · rw [h2]; simp [Lib.splitK, h1]
    · have : ((i : Int) == -1) = false := by rw [beq_eq_false_iff_ne]; omega
      simp only [Lib.splitK, h1, this]
      rw [h3]
      simp only [Bool.false_eq_true, if_false, Int.toNat_natCast, Nat.add_zero, List.length_singleton]
      rw [splitK_lines k _ (by omega)]
theorem countFrom_ten : ∀ (k : Nat) (l : List UInt8), l.length < k → Lib.countFrom [10] k l = l.count 10
  | k + 1, l, h => by
    rcases split_index l with ⟨h1, _, h3⟩ | ⟨i, h1, h2, _, h4⟩
    · simp [Lib.countFrom, h1, h3]
    · have : ((i : Int) == -1) = false := by rw [beq_eq_false_iff_ne]; omega
      simp only [Lib.countFrom, h1, this, Bool.false_eq_true, if_false, Int.toNat_natCast, List.length_singleton]
      rw [countFrom_ten k _ (by simp; omega), h4]
      omega
theorem split_lines (l : List UInt8) : Lib.splitK [10] 0 (Lib.count l [10]) l = splitL l := by
  rw [Lib.count, countFrom_ten _ _ (Nat.lt_succ_self _)]
  exact splitK_lines _ _ (Nat.le_refl _)
theorem splitL_length (l : List UInt8) : (splitL l).length = l.count 10 + 1 := by
  induction l with
  | nil => rfl
  | cons b t ih =>
    simp only [splitL]
    by_cases h : b = 10
    · simp [h, ih]
    · rw [if_neg h]
      cases hs : splitL t with
      | nil => exact absurd hs (splitL_ne t)
      | cons x xs => rw [hs] at ih; simp [List.count_cons, h] at ih ⊢; omega
/-- A line's tokens, with their places in the text. -/
def toksAt (a : Nat) (l : List UInt8) : List Tok := (toksF l).map fun t => (t.1, ((a + t.2 : Nat) : Int))
structure PSt where
  ls : Labs
  xs : List InsR
  size : Nat
/-- Line by line. -/
def runL (codes : List UInt8 → Option Nat) : List (List UInt8) → Nat → PSt → Except (Int × Int) PSt
  | [], _, s => .ok s
  | l :: rest, a, s =>
    match lineF codes s.ls s.size (toksAt a l) with
    | .error x => .error x
    | .ok (ls', none) => runL codes rest (a + l.length + 1) ⟨ls', s.xs, s.size⟩
    | .ok (ls', some i) => runL codes rest (a + l.length + 1) ⟨ls', s.xs ++ [i], s.size + (1 + widthN (shapeN i.c))⟩
/-- An instruction, its name (if it has one) being looked up. -/
def resolve1 (ls : Labs) (x : InsR) : Except (Int × Int) Ins :=
  if x.nm = [] then .ok ⟨x.c, x.o⟩ else match lookN ls x.nm with
    | none => .error (11, x.na)
    | some n => .ok ⟨x.c, if x.c = 26 then (n : Int) else (n : Int) - ((x.p : Int) + 3)⟩
def resolveL (ls : Labs) : List InsR → List Ins → Except (Int × Int) (List Ins)
  | [], acc => .ok acc
  | x :: xs, acc => match resolve1 ls x with | .error e => .error e | .ok i => resolveL ls xs (acc ++ [i])
/-- The bytes that Encode gives (none, beside an error). -/
def encOut (xs : List Ins) : List UInt8 := match encR' xs [] with | some l => l | none => []
  where encR' : List Ins → List UInt8 → Option (List UInt8)
  | [], acc => some acc
  | x :: xs, acc => if fitsB (shapeN x.c) x.o = true then (if 512 < (acc ++ x.enc).length then none else encR' xs (acc ++ x.enc)) else none
def wordsL : List (List UInt8) := ["commit", "push8", "push16", "push64", "dup", "drop", "swap", "over", "add", "sub", "mul", "div", "rem", "and", "or", "xor", "not", "shl", "shr", "ushr", "eq", "lt", "ult", "conv", "jump", "jumpz", "call", "ret", "arg", "tell", "abort", "load", "store", "cadd", "cget", "cput", "cdel", "clen", "chas", "cleast", "cnext"].map fun s => s.toUTF8.data.toList
def codeOf (s : List UInt8) : Option Nat := wordsL.findIdx? fun w => decide (s = w)
/-- asm.Parse. -/
def parseF (t : List UInt8) : Except (Int × Int) (List UInt8) :=
  match runL codeOf (splitL t) 0 ⟨[], [], 0⟩ with
  | .error x => .error x
  | .ok s => match resolveL s.ls s.xs [] with
    | .error x => .error x
    | .ok is => .ok (encOut is)
end Go.Proofs.YtbigllcononkbaaDoor
