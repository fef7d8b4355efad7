/- The definition's reader (layer 14): what an append to one of its lists leaves. -/
import Derived.Test.YtbigllcononkbaaDoorR9
namespace Go.Proofs.YtbigllcononkbaaDoor
open Go Go.RowKit

/-- The reader, its lists of three lengths. -/
structure AsmG (w : World) (B X : Nat) (vO vA vN vL : Value) (ls : Labs) (xO xA xN : List InsR) (size : Nat) : Prop where
  bX : X < B
  cells : w.heap[X]? = some (.cells #[vO, vA, vN, .int .i64 size, vL] 77 (0, 0))
  ops : w.ownsRow B 35 2 vO xO.length (cellsO xO)
  ats : w.ownsRow B 3 1 vA xA.length (cellsP xA)
  names : w.ownsRow B 85 2 vN xN.length (cellsN xN)
  labs : w.ownsRow B 85 2 vL ls.length (cellsL ls)
  ne : ∀ g, vN.ownBlock = some g → vL.ownBlock ≠ some g
theorem AsmAt.g {w : World} {B X : Nat} {vO vA vN vL : Value} {ls : Labs} {xs : List InsR} {size : Nat} (h : AsmAt w B X vO vA vN vL ls xs size) : AsmG w B X vO vA vN vL ls xs xs xs size := ⟨h.bX, h.cells, h.ops, h.ats, h.names, h.labs, h.ne⟩
/-- A step that writes one of the reader's lists. -/
structure Grew (W4 w1 : World) (vb : Option Nat) : Prop where
  os : w1.os = W4.os
  tape : w1.tape = W4.tape
  output : w1.output = W4.output
  size : W4.heap.size + 1 ≤ w1.heap.size
  block : ∀ k, k < W4.heap.size → some k ≠ vb → w1.heap[k]? = W4.heap[k]?
theorem grew_of {W4 w1 : World} {vb : Option Nat} (o : Obj) (h : ((W4.alloc o).drew).grownBy w1 vb) : Grew W4 w1 vb :=
  ⟨h.os, h.tape, h.output, by have := h.size; simpa using this, fun k h1 h2 => by rw [h.block k (by simp; omega) h2]; exact Below.heap_alloc _ _ _ h1⟩
section
variable {W4 w1 : World} {B X : Nat} {vO vA vN vL : Value} {ls : Labs} {xO xA xN : List InsR} {size : Nat}
theorem Grew.row {vb : Option Nat} (hg : Grew W4 w1 vb) (hXB : X < B) {e sz n : Nat} {v : Value} {ys : List Value} (hr : W4.ownsRow B e sz v n ys) (hne : ∀ g, v.ownBlock = some g → some g ≠ vb) (idx : Nat) (u : Value) : (w1.setCell ⟨X, idx, none⟩ u).ownsRow B e sz v n ys :=
  own_same hr fun g h => by
    have := own_lt hr h
    rw [Below.heap_setCell _ _ _ _ (by simp only; omega)]
    exact hg.block g this.1 (hne g h)
theorem Grew.keptX {vb : Option Nat} (hg : Grew W4 w1 vb) (hb : ∀ g, vb = some g → B ≤ g) (hB : B ≤ W4.heap.size) (idx : Nat) (u : Value) : KeptX B X W4 (w1.setCell ⟨X, idx, none⟩ u) :=
  ⟨hg.os, hg.tape, hg.output, by have := hg.size; simp [World.setCell]; omega, fun k h1 h2 => by
    rw [Below.heap_setCell _ _ _ _ h2]
    exact hg.block k (by omega) (fun e => by have := hb k e.symm; omega)⟩
theorem Grew.cellsX {vb : Option Nat} (hg : Grew W4 w1 vb) (h : AsmG W4 B X vO vA vN vL ls xO xA xN size) (hne : some X ≠ vb) (idx : Nat) (u : Value) :
    (w1.setCell ⟨X, idx, none⟩ u).heap[X]? = some (.cells (#[vO, vA, vN, .int .i64 size, vL].setIfInBounds idx u) 77 (0, 0)) :=
  set_heap (by rw [hg.block X (heap_lt h.cells) hne]; exact h.cells) idx u
theorem AsmG.addOp (h : AsmG W4 B X vO vA vN vL ls xO xA xN size) {gg cap : Nat} {x : InsR} (hg : Grew W4 w1 vO.ownBlock) (hown : w1.ownsRow B 35 2 (.slice (some ⟨gg, 0, none⟩) (xO.length + 1) cap) (xO.length + 1) (cellsO xO ++ [.int .i64 x.c, .int .i64 x.o])) :
    AsmG (w1.setCell ⟨X, 0, none⟩ (.slice (some ⟨gg, 0, none⟩) (xO.length + 1) cap)) B X (.slice (some ⟨gg, 0, none⟩) (xO.length + 1) cap) vA vN vL ls (xO ++ [x]) xA xN size where
  bX := h.bX
  cells := hg.cellsX h (own_ne_box h.ops h.cells (by decide)) 0 _
  ops := by
    rw [cellsO_snoc, List.length_append, List.length_singleton]
    exact own_setCell hown (by intro e; have e2 : X = gg := Option.some.inj e; have : B ≤ gg := (own_lt hown rfl).2; have := h.bX; omega) _
  ats := hg.row h.bX h.ats (fun g hh => own_types h.ats h.ops (by decide) hh) 0 _
  names := hg.row h.bX h.names (fun g hh => own_types h.names h.ops (by decide) hh) 0 _
  labs := hg.row h.bX h.labs (fun g hh => own_types h.labs h.ops (by decide) hh) 0 _
  ne := h.ne
theorem AsmG.addAt (h : AsmG W4 B X vO vA vN vL ls xO xA xN size) {gg cap : Nat} {x : InsR} (hg : Grew W4 w1 vA.ownBlock) (hown : w1.ownsRow B 3 1 (.slice (some ⟨gg, 0, none⟩) (xA.length + 1) cap) (xA.length + 1) (cellsP xA ++ [.int .i64 x.p])) :
    AsmG (w1.setCell ⟨X, 1, none⟩ (.slice (some ⟨gg, 0, none⟩) (xA.length + 1) cap)) B X vO (.slice (some ⟨gg, 0, none⟩) (xA.length + 1) cap) vN vL ls xO (xA ++ [x]) xN size where
  bX := h.bX
  cells := hg.cellsX h (own_ne_box h.ats h.cells (by decide)) 1 _
  ops := hg.row h.bX h.ops (fun g hh => own_types h.ops h.ats (by decide) hh) 1 _
  ats := by
    rw [cellsP_snoc, List.length_append, List.length_singleton]
    exact own_setCell hown (by intro e; have e2 : X = gg := Option.some.inj e; have : B ≤ gg := (own_lt hown rfl).2; have := h.bX; omega) _
  names := hg.row h.bX h.names (fun g hh => own_types h.names h.ats (by decide) hh) 1 _
  labs := hg.row h.bX h.labs (fun g hh => own_types h.labs h.ats (by decide) hh) 1 _
  ne := h.ne
theorem AsmG.addName (h : AsmG W4 B X vO vA vN vL ls xO xA xN size) {gg cap : Nat} {x : InsR} (hg : Grew W4 w1 vN.ownBlock) (hown : w1.ownsRow B 85 2 (.slice (some ⟨gg, 0, none⟩) (xN.length + 1) cap) (xN.length + 1) (cellsN xN ++ [.string ⟨x.nm.toArray⟩, .int .i64 x.na]))
    (hat : vN.ownBlock = some gg ∨ gg = W4.heap.size + 1) :
    AsmG (w1.setCell ⟨X, 2, none⟩ (.slice (some ⟨gg, 0, none⟩) (xN.length + 1) cap)) B X vO vA (.slice (some ⟨gg, 0, none⟩) (xN.length + 1) cap) vL ls xO xA (xN ++ [x]) size where
  bX := h.bX
  cells := hg.cellsX h (own_ne_box h.names h.cells (by decide)) 2 _
  ops := hg.row h.bX h.ops (fun g hh => own_types h.ops h.names (by decide) hh) 2 _
  ats := hg.row h.bX h.ats (fun g hh => own_types h.ats h.names (by decide) hh) 2 _
  names := by
    rw [cellsN_snoc, List.length_append, List.length_singleton]
    exact own_setCell hown (by intro e; have e2 : X = gg := Option.some.inj e; have : B ≤ gg := (own_lt hown rfl).2; have := h.bX; omega) _
  labs := hg.row h.bX h.labs (fun g hh e => h.ne g e.symm hh) 2 _
  ne := fun g hgg e => by
    have e2 : gg = g := Option.some.inj hgg
    subst e2
    rcases hat with hat | hat
    · exact h.ne gg hat e
    · have := (own_lt h.labs e).1
      omega
theorem AsmG.setSize {w : World} (h : AsmG w B X vO vA vN vL ls xO xA xN size) (n : Nat) : AsmG (w.setCell ⟨X, 3, none⟩ (.int .i64 n)) B X vO vA vN vL ls xO xA xN n where
  bX := h.bX
  cells := set_heap h.cells 3 _
  ops := own_setCell h.ops (own_ne_box h.ops h.cells (by decide)) _
  ats := own_setCell h.ats (own_ne_box h.ats h.cells (by decide)) _
  names := own_setCell h.names (own_ne_box h.names h.cells (by decide)) _
  labs := own_setCell h.labs (own_ne_box h.labs h.cells (by decide)) _
  ne := h.ne
end
end Go.Proofs.YtbigllcononkbaaDoor
