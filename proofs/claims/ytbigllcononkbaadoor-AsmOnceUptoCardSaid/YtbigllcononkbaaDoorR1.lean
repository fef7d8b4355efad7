/- Plain law of the definition's lines: what one more letter makes of a line's tokens, and of the lines. -/
import Derived.Test.YtbigllcononkbaaDoorL6
namespace Go.Proofs.YtbigllcononkbaaDoor
open Go

/-- What of a token stands at a line's end. -/
def pend : List UInt8 → List UInt8 → List UInt8
  | cur, [] => cur
  | cur, b :: t => if gapB b = true then pend [] t else pend (cur ++ [b]) t
theorem pend_snoc (b : UInt8) : ∀ (l cur : List UInt8), pend cur (l ++ [b]) = if gapB b = true then [] else pend cur l ++ [b]
  | [], cur => by simp only [List.nil_append, pend]
  | c :: l, cur => by
    simp only [List.cons_append, pend]
    split
    · exact pend_snoc b l []
    · exact pend_snoc b l _
theorem tk_gap (b : UInt8) (hb : gapB b = true) : ∀ (l : List UInt8) (i : Nat) (cur : List UInt8), tk i cur (l ++ [b]) = tk i cur l
  | [], i, cur => by
    simp only [List.nil_append, tk, if_pos hb]
    split <;> simp
  | c :: l, i, cur => by
    simp only [List.cons_append, tk]
    rw [tk_gap b hb l, tk_gap b hb l]
/-- A letter more that begins a token. -/
theorem tk_new (b : UInt8) (hb : gapB b = false) : ∀ (l : List UInt8) (i : Nat) (cur : List UInt8), pend cur l = [] → tk i cur (l ++ [b]) = tk i cur l ++ [([b], i + l.length)]
  | [], i, cur, h => by
    simp only [pend] at h
    subst h
    simp [tk, hb]
  | c :: l, i, cur, h => by
    simp only [List.cons_append, tk]
    simp only [pend] at h
    split at h
    · rename_i hc
      rw [if_pos hc, tk_new b hb l (i + 1) [] h, List.length_cons, if_pos hc]
      split <;> simp <;> omega
    · rename_i hc
      rw [if_neg hc, tk_new b hb l (i + 1) _ h, List.length_cons, if_neg hc]
      simp; omega
theorem tk_ext (b : UInt8) (hb : gapB b = false) : ∀ (l : List UInt8) (i : Nat) (cur : List UInt8), pend cur l ≠ [] → ∃ (ts : List (List UInt8 × Nat)) (x : List UInt8) (j : Nat), tk i cur l = ts ++ [(x, j)] ∧ tk i cur (l ++ [b]) = ts ++ [(x ++ [b], j)]
  | [], i, cur, h => by
    simp only [pend] at h
    refine ⟨[], cur, i - cur.length, ?_, ?_⟩
    · simp [tk, h]
    · simp [tk, hb]
  | c :: l, i, cur, h => by
    simp only [List.cons_append, tk]
    simp only [pend] at h
    split at h
    · rename_i hc
      obtain ⟨ts, x, j, e1, e2⟩ := tk_ext b hb l (i + 1) [] h
      rw [if_pos hc, if_pos hc, e1, e2]
      split
      · exact ⟨ts, x, j, rfl, rfl⟩
      · exact ⟨_ :: ts, x, j, rfl, rfl⟩
    · rename_i hc
      obtain ⟨ts, x, j, e1, e2⟩ := tk_ext b hb l (i + 1) _ h
      rw [if_neg hc, if_neg hc, e1, e2]
      exact ⟨ts, x, j, rfl, rfl⟩
def hashB (p : List UInt8) : Bool := p.contains 35
theorem cutHash_hash (p : List UInt8) (b : UInt8) (h : hashB p = true) : cutHash (p ++ [b]) = cutHash p := by
  induction p with
  | nil => simp [hashB] at h
  | cons c p ih =>
    by_cases hc : c = 35
    · subst hc; simp [cutHash]
    · have hc2 : (c != 35) = true := by simpa using hc
      have h2 : hashB p = true := by
        simp only [hashB, List.contains_cons, Bool.or_eq_true, beq_iff_eq] at h ⊢
        rcases h with h | h
        · exact absurd h.symm hc
        · exact h
      have := ih h2
      simp only [cutHash, List.cons_append, List.takeWhile_cons, hc2] at this ⊢
      simp [this]
theorem cutHash_no (p : List UInt8) (h : hashB p = false) : cutHash p = p := by
  induction p with
  | nil => rfl
  | cons c p ih =>
    simp only [hashB, List.contains_cons, Bool.or_eq_false_iff] at h
    have hc2 : (c != 35) = true := by
      have := h.1
      simp only [beq_eq_false_iff_ne, ne_eq] at this
      simp only [bne_iff_ne, ne_eq]
      exact fun e => this e.symm
    have := ih h.2
    simp only [cutHash, List.takeWhile_cons, hc2, if_true] at this ⊢
    rw [this]
theorem cutHash_end (p : List UInt8) (h : hashB p = false) : cutHash (p ++ [35]) = p := by
  have h1 := cutHash_no p h
  have : cutHash (p ++ [35]) = cutHash p := by
    unfold cutHash at h1 ⊢
    rw [List.takeWhile_append, h1]
    simp
  rw [this, h1]
theorem hashB_snoc (p : List UInt8) (b : UInt8) : hashB (p ++ [b]) = (hashB p || b == 35) := by
  simp only [hashB, List.contains_eq_mem, List.mem_append, List.mem_singleton]
  rw [Bool.eq_iff_iff]
  simp only [decide_eq_true_eq, Bool.or_eq_true, beq_iff_eq]
  exact or_congr Iff.rfl eq_comm
/-- Is a token under way at a line's end? -/
def inB (p : List UInt8) : Bool := !hashB p && !(pend [] p).isEmpty
theorem toksAt_skip (a : Nat) (p : List UInt8) (b : UInt8) (h : (hashB p || b == 35 || gapB b) = true) : toksAt a (p ++ [b]) = toksAt a p ∧ inB (p ++ [b]) = false := by
  unfold toksAt toksF inB
  rw [hashB_snoc, pend_snoc]
  cases hp : hashB p with
  | true => rw [cutHash_hash p b hp]; simp
  | false =>
    rw [hp] at h
    simp only [Bool.false_or, Bool.or_eq_true, beq_iff_eq] at h
    by_cases h35 : b = 35
    · subst h35
      rw [cutHash_end p hp, cutHash_no p hp]
      simp
    · have hg : gapB b = true := by rcases h with h | h; exact absurd h h35; exact h
      have h2 : hashB (p ++ [b]) = false := by rw [hashB_snoc, hp]; simpa using h35
      rw [cutHash_no _ h2, cutHash_no p hp, tk_gap b hg]
      simp [hg]
theorem toksAt_new (a : Nat) (p : List UInt8) (b : UInt8) (h : (hashB p || b == 35 || gapB b) = false) (hi : inB p = false) : toksAt a (p ++ [b]) = toksAt a p ++ [([b], ((a + p.length : Nat) : Int))] ∧ inB (p ++ [b]) = true := by
  simp only [Bool.or_eq_false_iff] at h
  obtain ⟨⟨hp, h35⟩, hg⟩ := h
  have h2 : hashB (p ++ [b]) = false := by rw [hashB_snoc, hp, h35]; rfl
  have hpe : pend [] p = [] := by
    simp only [inB, hp, Bool.not_false, Bool.true_and, Bool.not_eq_false'] at hi
    simpa using hi
  refine ⟨?_, ?_⟩
  · unfold toksAt toksF
    rw [cutHash_no _ h2, cutHash_no p hp, tk_new b hg p 0 [] hpe]
    simp
  · unfold inB
    rw [h2, pend_snoc, if_neg (by simp [hg])]
    simp
theorem toksAt_ext (a : Nat) (p : List UInt8) (b : UInt8) (h : (hashB p || b == 35 || gapB b) = false) (hi : inB p = true) :
    (∃ (ts : List Tok) (x : List UInt8) (j : Int), toksAt a p = ts ++ [(x, j)] ∧ toksAt a (p ++ [b]) = ts ++ [(x ++ [b], j)]) ∧ inB (p ++ [b]) = true := by
  simp only [Bool.or_eq_false_iff] at h
  obtain ⟨⟨hp, h35⟩, hg⟩ := h
  have h2 : hashB (p ++ [b]) = false := by rw [hashB_snoc, hp, h35]; rfl
  have hpe : pend [] p ≠ [] := by
    simp only [inB, hp, Bool.not_false, Bool.true_and, Bool.not_eq_true'] at hi
    simpa using hi
  refine ⟨?_, ?_⟩
  · unfold toksAt toksF
    rw [cutHash_no _ h2, cutHash_no p hp]
    obtain ⟨ts, x, j, e1, e2⟩ := tk_ext b hg p 0 [] hpe
    rw [e1, e2]
    exact ⟨ts.map fun t => (t.1, ((a + t.2 : Nat) : Int)), x, ((a + j : Nat) : Int), by simp, by simp⟩
  · unfold inB
    rw [h2, pend_snoc, if_neg (by simp [hg])]
    simp
/-- The tokens of lines, one line behind the other. -/
def offs : Nat → List (List UInt8) → List (List Tok)
  | _, [] => []
  | a, l :: r => toksAt a l :: offs (a + l.length + 1) r
def lsum (ls : List (List UInt8)) : Nat := (ls.map fun l => l.length + 1).sum
theorem offs_snoc (l : List UInt8) : ∀ (ls : List (List UInt8)) (a : Nat), offs a (ls ++ [l]) = offs a ls ++ [toksAt (a + lsum ls) l]
  | [], a => by simp [offs, lsum]
  | x :: ls, a => by
    simp only [List.cons_append, offs, offs_snoc l ls, lsum, List.map_cons, List.sum_cons]
    congr 4
    omega
theorem splitL_ten : ∀ l : List UInt8, splitL (l ++ [10]) = splitL l ++ [[]]
  | [] => rfl
  | c :: l => by
    simp only [List.cons_append, splitL]
    split
    · rw [splitL_ten l]; rfl
    · rw [splitL_ten l]
      cases hs : splitL l with
      | nil => exact absurd hs (splitL_ne l)
      | cons x xs => rfl
theorem splitL_other (b : UInt8) (hb : b ≠ 10) : ∀ (l : List UInt8), ∃ fl p, splitL l = fl ++ [p] ∧ splitL (l ++ [b]) = fl ++ [p ++ [b]]
  | [] => ⟨[], [], rfl, by simp [splitL, hb]⟩
  | c :: l => by
    obtain ⟨fl, p, e1, e2⟩ := splitL_other b hb l
    simp only [List.cons_append, splitL]
    split
    · exact ⟨[] :: fl, p, by rw [e1]; rfl, by rw [e2]; rfl⟩
    · rw [e1, e2]
      cases fl with
      | nil => exact ⟨[], c :: p, rfl, rfl⟩
      | cons x xs => exact ⟨(c :: x) :: xs, p, rfl, rfl⟩
end Go.Proofs.YtbigllcononkbaaDoor
