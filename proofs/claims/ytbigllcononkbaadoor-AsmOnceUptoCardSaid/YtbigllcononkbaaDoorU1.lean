/- Small laws on worlds: what a call that only lays new blocks leaves as it was. -/
import Derived.WalkKit
import Derived.Lib.Hide
namespace Go.Proofs.YtbigllcononkbaaDoor
open Go Go.RowKit

theorem row_lt {w : World} {B : Nat} {e : TypeId} {size n : Nat} {xs : List Value} {g cap : Nat} (h : w.ownsRow B e size (.slice (some ⟨g, 0, none⟩) n cap) n xs) : g < w.heap.size := by
  obtain ⟨_, h⟩ := h
  rcases h with ⟨h, _⟩ | ⟨g', cap', cur, h1, h2, h3, _⟩
  · cases h
  · cases h1
    exact (Array.getElem?_eq_some_iff.1 h3).1
theorem own_below {w w' : World} {B e size n : Nat} {v : Value} {xs : List Value} (h : w.ownsRow B e size v n xs) (hb : Below w.heap.size w w') : w'.ownsRow B e size v n xs := by
  obtain ⟨h1, h2⟩ := h
  refine ⟨h1, ?_⟩
  rcases h2 with h2 | ⟨g, cap, cur, hv, hg, hh, r⟩
  · exact .inl h2
  · exact .inr ⟨g, cap, cur, hv, hg, by rw [hb.block g (Array.getElem?_eq_some_iff.1 hh).1]; exact hh, r⟩
/-- A row that is owned reads so. -/
theorem own_cell {w : World} {B e size n : Nat} {g cap : Nat} {xs : List Value} (h : w.ownsRow B e size (.slice (some ⟨g, 0, none⟩) n cap) n xs) (j : Nat) (hj : j < xs.length) : w.cell? ⟨g, j, none⟩ = some xs[j] := by
  obtain ⟨h1, h2⟩ := h
  rcases h2 with ⟨h, _⟩ | ⟨g', cap', cur, hv, h2, hh, h3, h4, h5, h6⟩
  · cases h
  · cases hv
    subst h6
    simp only [World.cell?, hh, Option.isSome_none]
    rw [List.length_take] at hj
    have hj2 : j < cur.size := by have := Nat.lt_of_lt_of_le hj (Nat.min_le_right _ _); simpa using this
    simp only [Bool.false_eq_true, ↓reduceIte, List.getElem_take, Array.getElem_toList]
    exact Array.getElem?_eq_getElem hj2
/-- Of a row that has elements: where it lies. -/
theorem own_form {w : World} {B e size n : Nat} {v : Value} {xs : List Value} (h : w.ownsRow B e size v n xs) : (v = .slice none 0 0 ∧ n = 0) ∨ ∃ g cap, v = .slice (some ⟨g, 0, none⟩) n cap ∧ B ≤ g ∧ g < w.heap.size ∧ n ≤ cap ∧ cap ≤ maxLen := by
  obtain ⟨h1, h2⟩ := h
  rcases h2 with h2 | ⟨g, cap, cur, hv, hg, hh, hn, hc, _⟩
  · exact .inl h2
  · exact .inr ⟨g, cap, hv, hg, (Array.getElem?_eq_some_iff.1 hh).1, hn, hc⟩
theorem new_cells (w : World) (xs : List Value) (T n : Nat) (hn : n = w.heap.size) (j : Nat) (u : Value) (h : xs[j]? = some u) : (w.alloc (.cells xs.toArray T)).cell? (Addr.add ⟨n, 0, none⟩ j) = some u := by
  simp only [Addr.add]
  split <;> simp_all [World.cell?_alloc_at]
/-- Behind an append onto a row of the call's own: a block that is not the row's holds what it held. -/
theorem grown_cell {w0 W w' : World} {B e size n : Nat} {v : Value} {xs : List Value} (hown : w0.ownsRow B e size v n xs) (hg : W.grownBy w' v.ownBlock) (k o : Nat) (h1 : w0.heap.size ≤ k) (h2 : k < W.heap.size) : w'.cell? ⟨k, o, none⟩ = W.cell? ⟨k, o, none⟩ := by
  refine World.cell?_of_block (hg.block k h2 fun h => ?_)
  rcases own_form hown with ⟨rfl, _⟩ | ⟨g, cap, rfl, _, hlt, _⟩
  · cases h
  · cases h; simp at h1; omega
theorem grown_below {w W w' : World} {w0 : World} {B e size n : Nat} {v : Value} {xs : List Value} (hown : w0.ownsRow B e size v n xs) (hb : Below B w W) (hB : B ≤ W.heap.size) (hg : W.grownBy w' v.ownBlock) : Below B w w' :=
  hb.grown hg hB fun g hgo => by
    rcases own_form hown with ⟨rfl, _⟩ | ⟨g', cap', rfl, h1, _⟩
    · cases hgo
    · cases hgo; exact h1
theorem own_ne_box {w : World} {B e size n : Nat} {v : Value} {xs : List Value} (h : w.ownsRow B e size v n xs) {k : Nat} {cs : Array Value} {t : TypeId} {fr : Nat × Nat} (hk : w.heap[k]? = some (.cells cs t fr)) (hne : t ≠ e) : some k ≠ v.ownBlock := by
  intro he
  obtain ⟨_, h2⟩ := h
  rcases h2 with ⟨rfl, _⟩ | ⟨g, cap, cur, rfl, hg, hh, _⟩
  · cases he
  · cases he
    rw [hh] at hk
    cases hk
    exact hne rfl
theorem box_cell {w : World} {k : Nat} {cs : Array Value} {t : TypeId} {fr : Nat × Nat} (hk : w.heap[k]? = some (.cells cs t fr)) (o : Nat) : w.cell? ⟨k, o, none⟩ = cs[o]? := by
  simp [World.cell?, hk]
theorem heap_lt {w : World} {k : Nat} {o : Obj} (hk : w.heap[k]? = some o) : k < w.heap.size := (Array.getElem?_eq_some_iff.1 hk).1
theorem heap_new (w : World) (o : Obj) : (w.alloc o).heap[w.heap.size]? = some o := by
  show (w.heap.push o)[w.heap.size]? = _
  simp
theorem heap_old {w : World} {k : Nat} {x : Obj} (o : Obj) (hk : w.heap[k]? = some x) : (w.alloc o).heap[k]? = some x := by
  rw [Below.heap_alloc _ _ _ (heap_lt hk)]; exact hk
end Go.Proofs.YtbigllcononkbaaDoor
