/- The walk of the definition's Parse (layer 14). -/
import Derived.Test.YtbigllcononkbaaDoorR12
import Derived.Test.YtbigllcononkbaaDoorL8
namespace Go.Proofs.YtbigllcononkbaaDoor
open Go Go.RowKit

theorem offs_get : ∀ (ls : List (List UInt8)) (a i : Nat) (l : List UInt8), ls[i]? = some l → (offs a ls)[i]? = some (toksAt (a + lsum (ls.take i)) l)
  | [], _, i, _, h => by simp at h
  | x :: ls, a, 0, l, h => by
    simp only [List.getElem?_cons_zero, Option.some.injEq] at h
    subst h
    simp [offs, lsum]
  | x :: ls, a, i + 1, l, h => by
    rw [offs, List.getElem?_cons_succ, offs_get ls _ i l (by simpa using h)]
    congr 2
    simp only [List.take_succ_cons, lsum, List.map_cons, List.sum_cons]
    omega
theorem toksAt_bd (a : Nat) (p : List UInt8) (t : Tok) (h : t ∈ toksAt a p) : t.1.length ≤ p.length ∧ (0 ≤ t.2 ∧ t.2 ≤ a + p.length) ∧ t.1 ≠ [] := by
  simp only [toksAt, List.mem_map] at h
  obtain ⟨t', ht', rfl⟩ := h
  have h1 := tk_bound _ 0 [] (by simp) t' ht'
  have h2 := cutHash_le p
  exact ⟨by simp only; omega, ⟨by simp only; omega, by simp only; omega⟩, h1.2⟩
theorem tok_row {w : World} {B g n cap : Nat} {ts : List Tok} (h : w.ownsRow B 85 2 (.slice (some ⟨g, 0, none⟩) n cap) ts.length (cellsK ts)) (h1 : ts.length ≤ 1048577) (h2 : ∀ t ∈ ts, t.1.length ≤ 1048576 ∧ 0 ≤ t.2 ∧ t.2 ≤ 2097152) : TokAt w g 0 ts := by
  rcases own_form h with ⟨h, _⟩ | ⟨g', cap', e, _, hg, _, _⟩
  · cases h
  · cases e
    refine ⟨h1, h2, hg, fun i t ht => ?_⟩
    have key : ∀ j u, (cellsK ts)[j]? = some u → w.cell? ⟨g, j, none⟩ = some u := fun j u hu => by
      have hj : j < (cellsK ts).length := by
        rcases Nat.lt_or_ge j (cellsK ts).length with h | h
        · exact h
        · rw [List.getElem?_eq_none h] at hu; cases hu
      rw [own_cell h j hj]
      rw [List.getElem?_eq_getElem hj] at hu
      exact hu
    have hf := flat2 (fun t : Tok => Value.string ⟨t.1.toArray⟩) (fun t => Value.int .i64 t.2) ts i
    rw [ht] at hf
    rw [Nat.zero_add]
    exact ⟨key _ _ hf.1, key _ _ hf.2⟩
/-- The line's call, whatever its tokens. -/
theorem line14_any (B X : Nat) (vO vA vN vL : Value) (ls : Labs) (xs : List InsR) (size a : Nat) (l : List UInt8) (v : Value) (B0 : Nat) (w : World)
    (hA : AsmAt w B X vO vA vN vL ls xs size) (hv : w.ownsRow B0 85 2 v (toksAt a l).length (cellsK (toksAt a l))) (hB0 : ∀ g, v.ownBlock = some g → g < B ∧ g ≠ X) (hl : l.length ≤ 1048576) (ha : a ≤ 1048576) (hBw : B ≤ w.heap.size) (hls : ls.length ≤ 1048576) :
    Calls Tryd.prog 28 #[.pointer (some ⟨X, 0, none⟩), v] w (Line14Post w B X ls xs size (toksAt a l)) := by
  rcases own_form hv with ⟨rfl, h0⟩ | ⟨g, cap, rfl, _, hg, hc, hm⟩
  · rw [List.length_eq_zero_iff.1 h0]
    exact line14_empty B X vO vA vN vL ls xs size none 0 w hA
  · cases hts : toksAt a l with
    | nil =>
      exact line14_empty B X vO vA vN vL ls xs size _ cap w hA
    | cons t0 ts =>
      have hb : ∀ t ∈ toksAt a l, t.1.length ≤ 1048576 ∧ 0 ≤ t.2 ∧ t.2 ≤ 2097152 := fun t ht => by
        have := toksAt_bd a l t ht
        exact ⟨by omega, this.2.1.1, by omega⟩
      have hT := tok_row hv (by have := toksAt_few a l; omega) hb
      rw [hts] at hT hc
      obtain ⟨h1, h2⟩ := hB0 g rfl
      exact line14_some B X vO vA vN vL ls xs size g 0 cap t0 ts w hA hT (by simpa using hc) hm (toksAt_bd a l t0 (by rw [hts]; exact List.mem_cons_self)).2.2 h1 h2 hBw hls
/-- Between two lines. -/
structure Loop14 (w wl wr : World) (t : List UInt8) (X k a : Nat) (st : PSt) (vO vA vN vL : Value) : Prop where
  run : runL codeOf (splitL t) 0 ⟨[], [], 0⟩ = runL codeOf ((splitL t).drop k) a st
  sum : a = lsum ((splitL t).take k)
  rd : AsmAt wr wl.heap.size X vO vA vN vL st.ls st.xs st.size
  kept : KeptX wl.heap.size X wl wr
  read : readS st
  few : st.ls.length ≤ k
theorem lsum_split (t : List UInt8) : lsum (splitL t) = t.length + 1 := by
  obtain ⟨fl, p, h⟩ := split_ne t
  have := lsum_take h
  rw [h]
  simp only [lsum, List.map_append, List.map_cons, List.map_nil, List.sum_append, List.sum_cons, List.sum_nil] at this ⊢
  omega
theorem lsum_take_le (ls : List (List UInt8)) (k : Nat) (l : List UInt8) (h : ls[k]? = some l) : lsum (ls.take k) + l.length + 1 = lsum (ls.take (k + 1)) ∧ lsum (ls.take (k + 1)) ≤ lsum ls := by
  have hk : k < ls.length := by
    rcases Nat.lt_or_ge k ls.length with h' | h'
    · exact h'
    · rw [List.getElem?_eq_none h'] at h; cases h
  rw [List.getElem?_eq_getElem hk] at h
  have e : ls.take (k + 1) = ls.take k ++ [l] := by rw [List.take_succ_eq_append_getElem hk, Option.some.inj h]
  constructor
  · rw [e]
    simp only [lsum, List.map_append, List.map_cons, List.map_nil, List.sum_append, List.sum_cons, List.sum_nil]
    omega
  · conv => rhs; rw [← List.take_append_drop (k + 1) ls]
    simp only [lsum, List.map_append, List.sum_append]
    omega
theorem lineF_few {codes : List UInt8 → Option Nat} {ls ls' : Labs} {size : Nat} {ts : List Tok} {r : Option InsR} (h : lineF codes ls size ts = .ok (ls', r)) : ls'.length ≤ ls.length + 1 := by
  cases ts with
  | nil => simp only [lineF] at h; cases h; omega
  | cons t0 rest =>
    simp only [lineF] at h
    cases hl : labStage ls size t0 rest with
    | error e => rw [hl] at h; cases h
    | ok y =>
      obtain ⟨l2, t2⟩ := y
      have hlen : l2.length ≤ ls.length + 1 := by
        unfold labStage at hl
        split at hl
        · split at hl
          · split at hl
            · cases hl
            · cases hl; simp
          · cases hl
        · cases hl; omega
      rw [hl] at h
      cases t2 with
      | nil => simp only at h; cases h; exact hlen
      | cons t t2 =>
        simp only at h
        split at h
        · cases h
        · cases h; exact hlen
theorem Loop14.step {w wl wr w2 : World} {t : List UInt8} {X k a : Nat} {st : PSt} {vO vA vN vL : Value} {l : List UInt8} (h : Loop14 w wl wr t X k a st vO vA vN vL) (hl : (splitL t)[k]? = some l) (hk : KeptX wl.heap.size X wr w2)
    {ls' : Labs} {r : Option InsR} (hlf : lineF codeOf st.ls st.size (toksAt a l) = .ok (ls', r)) {vO' vA' vN' vL' : Value} {st' : PSt} (hst : st' = stepS st ls' r)
    (hr : AsmAt w2 wl.heap.size X vO' vA' vN' vL' st'.ls st'.xs st'.size) : Loop14 w wl w2 t X (k + 1) (a + l.length + 1) st' vO' vA' vN' vL' where
  run := by
    have hkl : k < (splitL t).length := by
      rcases Nat.lt_or_ge k (splitL t).length with h' | h'
      · exact h'
      · rw [List.getElem?_eq_none h'] at hl; cases hl
    have e : (splitL t)[k] = l := by rw [List.getElem?_eq_getElem hkl] at hl; exact Option.some.inj hl
    rw [h.run, List.drop_eq_getElem_cons hkl, e, runL, hlf, hst]
    cases r <;> rfl
  sum := by
    rw [← (lsum_take_le _ _ _ hl).1, h.sum]
  rd := hr
  kept := h.kept.trans hk
  read := by rw [hst]; exact lineF_read (fun s c => codeOf_lt s c) h.read hlf
  few := by
    have := lineF_few hlf
    have := h.few
    rw [hst]
    cases r <;> simp only [stepS] <;> omega
end Go.Proofs.YtbigllcononkbaaDoor
