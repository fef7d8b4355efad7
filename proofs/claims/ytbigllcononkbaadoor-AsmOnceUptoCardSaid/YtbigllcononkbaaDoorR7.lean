/- The definition's reader (layer 14): its memory; the walk of label. -/
import Derived.Test.YtbigllcononkbaaDoorR6
import Derived.Test.YtbigllcononkbaaDoorR3
namespace Go.Proofs.YtbigllcononkbaaDoor
open Go Go.RowKit

def cellsO (xs : List InsR) : List Value := xs.flatMap fun x => [.int .i64 x.c, .int .i64 x.o]
def cellsP (xs : List InsR) : List Value := xs.map fun x => .int .i64 x.p
def cellsN (xs : List InsR) : List Value := xs.flatMap fun x => [.string ⟨x.nm.toArray⟩, .int .i64 x.na]
def cellsL (ls : Labs) : List Value := ls.flatMap fun p => [.string ⟨p.1.toArray⟩, .int .i64 p.2]
theorem cellsO_snoc (xs : List InsR) (x : InsR) : cellsO (xs ++ [x]) = cellsO xs ++ [.int .i64 x.c, .int .i64 x.o] := by simp [cellsO]
theorem cellsP_snoc (xs : List InsR) (x : InsR) : cellsP (xs ++ [x]) = cellsP xs ++ [.int .i64 x.p] := by simp [cellsP]
theorem cellsN_snoc (xs : List InsR) (x : InsR) : cellsN (xs ++ [x]) = cellsN xs ++ [.string ⟨x.nm.toArray⟩, .int .i64 x.na] := by simp [cellsN]
theorem cellsL_snoc (ls : Labs) (x : List UInt8 × Nat) : cellsL (ls ++ [x]) = cellsL ls ++ [.string ⟨x.1.toArray⟩, .int .i64 x.2] := by simp [cellsL]
/-- The definition's reader lies in block X, its lists from block B on. -/
structure AsmAt (w : World) (B X : Nat) (vO vA vN vL : Value) (ls : Labs) (xs : List InsR) (size : Nat) : Prop where
  bX : X < B
  cells : w.heap[X]? = some (.cells #[vO, vA, vN, .int .i64 size, vL] 77 (0, 0))
  ops : w.ownsRow B 35 2 vO xs.length (cellsO xs)
  ats : w.ownsRow B 3 1 vA xs.length (cellsP xs)
  names : w.ownsRow B 85 2 vN xs.length (cellsN xs)
  labs : w.ownsRow B 85 2 vL ls.length (cellsL ls)
  ne : ∀ g, vN.ownBlock = some g → vL.ownBlock ≠ some g
  few : xs.length ≤ size ∧ size ≤ 512
/-- What is older than B is as it was, but for block X. -/
structure KeptX (B X : Nat) (w w' : World) : Prop where
  os : w'.os = w.os
  tape : w'.tape = w.tape
  output : w'.output = w.output
  size : w.heap.size ≤ w'.heap.size
  block : ∀ k, k < B → k ≠ X → w'.heap[k]? = w.heap[k]?
theorem KeptX.refl (B X : Nat) (w : World) : KeptX B X w w := ⟨rfl, rfl, rfl, Nat.le_refl _, fun _ _ _ => rfl⟩
theorem KeptX.trans {B X : Nat} {w w1 w2 : World} (h : KeptX B X w w1) (h2 : KeptX B X w1 w2) : KeptX B X w w2 :=
  ⟨h2.os.trans h.os, h2.tape.trans h.tape, h2.output.trans h.output, Nat.le_trans h.size h2.size, fun k hk hX => (h2.block k hk hX).trans (h.block k hk hX)⟩
theorem KeptX.of_below {B X : Nat} {w w' : World} (h : Below w.heap.size w w') (hB : B ≤ w.heap.size) : KeptX B X w w' :=
  ⟨h.os, h.tape, h.output, h.size, fun k hk _ => h.block k (by omega)⟩
theorem AsmAt.below {w w' : World} {B X : Nat} {vO vA vN vL : Value} {ls : Labs} {xs : List InsR} {size : Nat} (h : AsmAt w B X vO vA vN vL ls xs size) (hb : Below w.heap.size w w') : AsmAt w' B X vO vA vN vL ls xs size where
  bX := h.bX
  cells := by rw [hb.block X (heap_lt h.cells)]; exact h.cells
  ops := own_below h.ops hb
  ats := own_below h.ats hb
  names := own_below h.names hb
  labs := own_below h.labs hb
  ne := h.ne
  few := h.few
/-- The place of a name. -/
def lookV (ls : Labs) (q : List UInt8) : Int := match lookN ls q with | some n => (n : Int) | none => -1
theorem lookN_at (q : List UInt8) : ∀ (ls : Labs) (k : Nat) (p : List UInt8 × Nat), ls[k]? = some p → p.1 = q → (∀ (m : Nat) (r : List UInt8 × Nat), m < k → ls[m]? = some r → r.1 ≠ q) → lookN ls q = some p.2
  | [], k, p, h, _, _ => by simp at h
  | x :: ls, 0, p, h, hq, _ => by
    simp only [List.getElem?_cons_zero, Option.some.injEq] at h
    subst h
    simp [lookN, hq]
  | x :: ls, k + 1, p, h, hq, hm => by
    have hx : x.1 ≠ q := hm 0 x (by omega) rfl
    have := lookN_at q ls k p (by simpa using h) hq (fun m r hlt hr => hm (m + 1) r (by omega) (by simpa using hr))
    simp only [lookN] at this ⊢
    rw [List.find?_cons_of_neg (by simpa using fun e : q = x.1 => hx e.symm)]
    exact this
theorem lookN_not (q : List UInt8) : ∀ (ls : Labs), (∀ (m : Nat) (r : List UInt8 × Nat), ls[m]? = some r → r.1 ≠ q) → lookN ls q = none := by
  intro ls h
  simp only [lookN, Option.map_eq_none_iff, List.find?_eq_none]
  intro x hx
  obtain ⟨m, hm⟩ := List.getElem?_of_mem hx
  simpa using fun e : q = x.1 => h m x hm e.symm
theorem lab_cells {w : World} {B g cap : Nat} {ls : Labs} (h : w.ownsRow B 85 2 (.slice (some ⟨g, 0, none⟩) ls.length cap) ls.length (cellsL ls)) {k : Nat} {p : List UInt8 × Nat} (hk : ls[k]? = some p) :
    w.cell? ⟨g, k * 2, none⟩ = some (.string ⟨p.1.toArray⟩) ∧ w.cell? ⟨g, k * 2 + 1, none⟩ = some (.int .i64 p.2) := by
  have key : ∀ j u, (cellsL ls)[j]? = some u → w.cell? ⟨g, j, none⟩ = some u := fun j u hu => by
    have hj : j < (cellsL ls).length := by
      rcases Nat.lt_or_ge j (cellsL ls).length with h | h
      · exact h
      · rw [List.getElem?_eq_none h] at hu; cases hu
    rw [own_cell h j hj]
    rw [List.getElem?_eq_getElem hj] at hu
    exact hu
  have hf := flat2 (fun p : List UInt8 × Nat => Value.string ⟨p.1.toArray⟩) (fun p => Value.int .i64 p.2) ls k
  rw [hk] at hf
  exact ⟨key _ _ hf.1, key _ _ hf.2⟩
set_option maxRecDepth 100000 in
set_option maxHeartbeats 1600000 in
theorem label_any14 (B X : Nat) (vO vA vN vL : Value) (ls : Labs) (xs : List InsR) (size : Nat) (q : ByteArray) (w : World) (hA : AsmAt w B X vO vA vN vL ls xs size) (hl : ls.length ≤ 1048577) :
    Calls Tryd.prog 29 #[.pointer (some ⟨X, 0, none⟩), .string q] w fun e w' => e = .returned (.int .i64 (lookV ls q.data.toList)) ∧ w' = w := by
  have hXl := heap_lt hA.cells
  have c4 := box_cell hA.cells 4
  simp at c4
  rcases own_form hA.labs with ⟨rfl, h0⟩ | ⟨g, cap, rfl, _, hgl, hcap, hcm⟩
  · have hls : ls = [] := List.length_eq_zero_iff.1 h0
    subst hls
    clear hA h0
    go_enter Tryd.func29, Tryd.ntmps29
    go_wp2
    go_loop [5] (fun i => i = .int .i64 0) (fun _ => 0)
    case atStart => rfl
    case round =>
      obtain rfl := hrel
      go_wp2
      go_ret
      exact ⟨rfl, rfl⟩
  · have HA := Lib.hid hA
    clear hA
    unfold maxLen at hcm
    go_enter Tryd.func29, Tryd.ntmps29
    go_wp2
    go_loop [5] (fun i => ∃ k : Nat, k ≤ ls.length ∧ i = .int .i64 k ∧ Hid (∀ (m : Nat) (r : List UInt8 × Nat), m < k → ls[m]? = some r → r.1 ≠ q.data.toList)) (fun i => ls.length - (intOf i).toNat)
    case atStart => exact ⟨0, by omega, rfl, fun m r h => by omega⟩
    case round =>
      obtain ⟨k, hk, rfl, HK⟩ := hrel
      by_cases hlt : k < ls.length
      · obtain ⟨p, hp⟩ : ∃ p, ls[k]? = some p := ⟨_, List.getElem?_eq_getElem hlt⟩
        obtain ⟨h1, h2⟩ := lab_cells HA.out.labs hp
        by_cases he : p.1 = q.data.toList
        · have HL := Lib.hid (lookN_at _ ls k p hp he (fun m r hm hr => HK.out m r hm hr))
          have hq : (⟨p.1.toArray⟩ : ByteArray) = q := by rw [he]
          rw [hq] at h1
          have heq : (q.toList == q.toList) = true := by simp
          clear hp he hq HK
          go_wp2
          go_ret
          exact ⟨by rw [lookV, HL.out]; rfl, rfl⟩
        · have hne : ((⟨p.1.toArray⟩ : ByteArray).toList == q.toList) = false := by
            rw [beq_eq_false_iff_ne, ByteArray.toList_eq, ByteArray.toList_eq]
            exact he
          have HK2 : Hid (∀ (m : Nat) (r : List UInt8 × Nat), m < k + 1 → ls[m]? = some r → r.1 ≠ q.data.toList) := fun m r hm hr => by
            rcases Nat.lt_succ_iff_lt_or_eq.1 hm with h | rfl
            · exact HK.out m r h hr
            · rw [hp] at hr; cases hr; exact he
          generalize (⟨p.1.toArray⟩ : ByteArray) = z at *
          clear hp he HK
          go_wp2
          go_round
          case rel => exact ⟨k + 1, by omega, by go_num, HK2⟩
          case measure => simp [intOf]; omega
      · have HL := Lib.hid (lookN_not q.data.toList ls fun m r hr => HK.out m r (by
          rcases Nat.lt_or_ge m ls.length with h | h
          · omega
          · rw [List.getElem?_eq_none h] at hr; cases hr) hr)
        clear HK
        go_wp2
        go_ret
        exact ⟨by rw [lookV, HL.out]; rfl, rfl⟩
end Go.Proofs.YtbigllcononkbaaDoor
