/- The walk of the definition's lines (layer 14). -/
import Derived.Test.YtbigllcononkbaaDoorR1
import Derived.Test.YtbigllcononkbaaDoorC9
namespace Go.Proofs.YtbigllcononkbaaDoor
open Go Go.RowKit

theorem infoLine : (Tryd.prog.info? 83).map (fun i => (i.zero, i.size, i.bytes)) = some (some (.agg #[.slice none 0 0, .string ⟨#[]⟩]), 2, 40) := by kernel_rfl
theorem infoTok14 : (Tryd.prog.info? 85).map (fun i => (i.zero, i.size, i.bytes)) = some (some (.agg #[.string ⟨#[]⟩, .int .i64 0]), 2, 24) := by kernel_rfl
/-- Tokens as cells. -/
def cellsK (ts : List Tok) : List Value := ts.flatMap fun t => [.string ⟨t.1.toArray⟩, .int .i64 t.2]
theorem cellsK_snoc (ts : List Tok) (t : Tok) : cellsK (ts ++ [t]) = cellsK ts ++ [.string ⟨t.1.toArray⟩, .int .i64 t.2] := by simp [cellsK]
theorem cellsK_length (ts : List Tok) : (cellsK ts).length = ts.length * 2 := by
  induction ts with
  | nil => rfl
  | cons t ts ih => simp only [cellsK, List.flatMap_cons, List.length_append] at ih ⊢; rw [ih]; simp; omega
/-- Lines as cells. -/
def cellsV (vs : List Value) : List Value := vs.flatMap fun v => [v, .string ⟨#[]⟩]
theorem cellsV_snoc (vs : List Value) (v : Value) : cellsV (vs ++ [v]) = cellsV vs ++ [v, .string ⟨#[]⟩] := by simp [cellsV]
theorem cellsV_length (vs : List Value) : (cellsV vs).length = vs.length * 2 := by
  induction vs with
  | nil => rfl
  | cons t ts ih => simp only [cellsV, List.flatMap_cons, List.length_append] at ih ⊢; rw [ih]; simp; omega
theorem own_same {w w' : World} {B e size n : Nat} {v : Value} {xs : List Value} (h : w.ownsRow B e size v n xs) (hs : ∀ g, v.ownBlock = some g → w'.heap[g]? = w.heap[g]?) : w'.ownsRow B e size v n xs := by
  obtain ⟨h1, h2⟩ := h
  refine ⟨h1, ?_⟩
  rcases h2 with h2 | ⟨g, cap, cur, rfl, hg, hh, r⟩
  · exact .inl h2
  · exact .inr ⟨g, cap, cur, rfl, hg, by rw [hs g rfl]; exact hh, r⟩
theorem own_base {w : World} {B B' e size n : Nat} {v : Value} {xs : List Value} (h : w.ownsRow B e size v n xs) (hB : B' ≤ B) : w.ownsRow B' e size v n xs := by
  obtain ⟨h1, h2⟩ := h
  refine ⟨h1, ?_⟩
  rcases h2 with h2 | ⟨g, cap, cur, rfl, hg, r⟩
  · exact .inl h2
  · exact .inr ⟨g, cap, cur, rfl, Nat.le_trans hB hg, r⟩
theorem own_lt {w : World} {B e size n g : Nat} {v : Value} {xs : List Value} (h : w.ownsRow B e size v n xs) (hg : v.ownBlock = some g) : g < w.heap.size ∧ B ≤ g := by
  rcases own_form h with ⟨rfl, _⟩ | ⟨g', cap, rfl, h1, h2, _⟩
  · cases hg
  · cases hg; exact ⟨h2, h1⟩
/-- A row's block, and one of another type. -/
theorem own_types {w : World} {B B' e e' size size' n n' : Nat} {v v' : Value} {xs xs' : List Value} (h : w.ownsRow B e size v n xs) (h' : w.ownsRow B' e' size' v' n' xs') (hne : e ≠ e') {g : Nat} (hg : v.ownBlock = some g) : some g ≠ v'.ownBlock := by
  obtain ⟨_, h2⟩ := h
  rcases h2 with ⟨rfl, _⟩ | ⟨g1, cap, cur, rfl, _, hh, _⟩
  · cases hg
  · cases hg
    exact own_ne_box h' hh (by exact hne)
/-- The memory of the definition's lines, between two letters. -/
structure LinesW (w wr : World) (out : Value) (fl : List (List UInt8)) (p : List UInt8) (vs : List Value) (vc : Value) (base : Nat) : Prop where
  bel : Below w.heap.size w wr
  lo : w.heap.size ≤ base
  hi : base ≤ wr.heap.size
  len : vs.length = fl.length
  row : wr.ownsRow w.heap.size 83 2 out (fl.length + 1) (cellsV (vs ++ [vc]))
  old : ∀ (i : Nat) (v : Value) (ts : List Tok), vs[i]? = some v → (offs 0 fl)[i]? = some ts → wr.ownsRow w.heap.size 85 2 v ts.length (cellsK ts) ∧ ∀ g, v.ownBlock = some g → g < base
  cur : wr.ownsRow base 85 2 vc (toksAt (lsum fl) p).length (cellsK (toksAt (lsum fl) p))
theorem LinesW.same {w wr w' : World} {out : Value} {fl : List (List UInt8)} {p q : List UInt8} {vs : List Value} {vc : Value} {base : Nat} (h : LinesW w wr out fl p vs vc base) (hb : Below wr.heap.size wr w') (hq : toksAt (lsum fl) q = toksAt (lsum fl) p) : LinesW w w' out fl q vs vc base where
  bel := h.bel.trans (hb.mono h.bel.size)
  lo := h.lo
  hi := Nat.le_trans h.hi hb.size
  len := h.len
  row := own_below h.row hb
  old := fun i v ts h1 h2 => ⟨own_below (h.old i v ts h1 h2).1 hb, (h.old i v ts h1 h2).2⟩
  cur := by rw [hq]; exact own_below h.cur hb
theorem offs_length : ∀ (ls : List (List UInt8)) (a : Nat), (offs a ls).length = ls.length
  | [], _ => rfl
  | l :: ls, a => by simp [offs, offs_length ls]
/-- Behind a line's end. -/
theorem LinesW.line {w wr w0 w1 : World} {out out' : Value} {fl : List (List UInt8)} {p : List UInt8} {vs : List Value} {vc : Value} {base : Nat} (h : LinesW w wr out fl p vs vc base) (h0 : Below wr.heap.size wr w0)
    (hg : w0.grownBy w1 out.ownBlock) (hr : w1.ownsRow w.heap.size 83 2 out' (fl.length + 1 + 1) (cellsV (vs ++ [vc]) ++ [.slice none 0 0, .string ⟨#[]⟩])) :
    LinesW w w1 out' (fl ++ [p]) [] (vs ++ [vc]) (.slice none 0 0) w1.heap.size where
  bel := (h.bel.trans (h0.mono h.bel.size)).grown hg (Nat.le_trans h.bel.size h0.size) (fun g hgo => (own_lt h.row hgo).2)
  lo := Nat.le_trans h.bel.size (Nat.le_trans h0.size hg.size)
  hi := Nat.le_refl _
  len := by simp [h.len]
  row := by
    rw [cellsV_snoc, List.length_append]
    exact hr
  old := by
    have hrow0 := own_below h.row h0
    have key : ∀ v ts B, wr.ownsRow B 85 2 v (List.length ts) (cellsK ts) → w1.ownsRow B 85 2 v ts.length (cellsK ts) ∧ ∀ g, v.ownBlock = some g → g < w1.heap.size := fun v ts B hv => by
      have hv0 := own_below hv h0
      have h1 := own_same hv0 (w' := w1) fun g hg' => hg.block g (own_lt hv0 hg').1 (own_types hv0 hrow0 (by decide) hg')
      exact ⟨h1, fun g hg' => (own_lt h1 hg').1⟩
    intro i v ts hv ht
    rw [offs_snoc, Nat.zero_add] at ht
    have hl := h.len
    have hol := offs_length fl 0
    rcases Nat.lt_or_ge i vs.length with hi | hi
    · rw [List.getElem?_append_left hi] at hv
      rw [List.getElem?_append_left (by omega)] at ht
      exact key v ts _ (h.old i v ts hv ht).1
    · rw [List.getElem?_append_right hi] at hv
      rw [List.getElem?_append_right (by omega)] at ht
      have : i - vs.length = 0 := by
        rcases Nat.eq_zero_or_pos (i - vs.length) with h | h
        · exact h
        · rw [List.getElem?_eq_none (by simp; omega)] at hv; cases hv
      rw [show i - (offs 0 fl).length = 0 by omega] at ht
      rw [this] at hv
      simp at hv ht
      subst hv ht
      exact key vc _ _ (own_base h.cur h.lo)
  cur := World.ownsRow_nil _ _ _ _
/-- Behind a token's step: the line's tokens are others, its cell among the lines' too. -/
theorem LinesW.tok {w wr w2 : World} {out : Value} {fl : List (List UInt8)} {p q : List UInt8} {vs : List Value} {vc vc' : Value} {base : Nat} (h : LinesW w wr out fl p vs vc base)
    (hb : Below w.heap.size w w2) (hz : wr.heap.size ≤ w2.heap.size) (hk : ∀ k, k < base → some k ≠ out.ownBlock → w2.heap[k]? = wr.heap[k]?)
    (hr : w2.ownsRow w.heap.size 83 2 out (fl.length + 1) (cellsV (vs ++ [vc'])))
    (hc : w2.ownsRow base 85 2 vc' (toksAt (lsum fl) q).length (cellsK (toksAt (lsum fl) q))) : LinesW w w2 out fl q vs vc' base where
  bel := hb
  lo := h.lo
  hi := Nat.le_trans h.hi hz
  len := h.len
  row := hr
  old := fun i v ts h1 h2 => by
    obtain ⟨a, b⟩ := h.old i v ts h1 h2
    exact ⟨own_same a fun g hg => hk g (b g hg) (own_types a h.row (by decide) hg), b⟩
  cur := hc
end Go.Proofs.YtbigllcononkbaaDoor
