/- The walk of asm.Parse. -/
import Derived.Test.YtbigllcononkbaaDoorD4
import Derived.Test.YtbigllcononkbaaDoorL7
namespace Go.Proofs.YtbigllcononkbaaDoor
open Go Go.RowKit

def wordsV : Array Value := (wordsL.map fun l => Value.string ⟨l.toArray⟩).toArray
set_option maxRecDepth 100000 in
theorem words_fields : Lib.fields [99, 111, 109, 109, 105, 116, 32, 112, 117, 115, 104, 56, 32, 112, 117, 115, 104, 49, 54, 32, 112, 117, 115, 104, 54, 52, 32, 100, 117, 112, 32, 100, 114, 111, 112, 32, 115, 119, 97, 112, 32, 111, 118, 101, 114, 32, 97, 100, 100, 32, 115, 117, 98, 32, 109, 117, 108, 32, 100, 105, 118, 32, 114, 101, 109, 32, 97, 110, 100, 32, 111, 114, 32, 120, 111, 114, 32, 110, 111, 116, 32, 115, 104, 108, 32, 115, 104, 114, 32, 117, 115, 104, 114, 32, 101, 113, 32, 108, 116, 32, 117, 108, 116, 32, 99, 111, 110, 118, 32, 106, 117, 109, 112, 32, 106, 117, 109, 112, 122, 32, 99, 97, 108, 108, 32, 114, 101, 116, 32, 97, 114, 103, 32, 116, 101, 108, 108, 32, 97, 98, 111, 114, 116, 32, 108, 111, 97, 100, 32, 115, 116, 111, 114, 101, 32, 99, 97, 100, 100, 32, 99, 103, 101, 116, 32, 99, 112, 117, 116, 32, 99, 100, 101, 108, 32, 99, 108, 101, 110, 32, 99, 104, 97, 115, 32, 99, 108, 101, 97, 115, 116, 32, 99, 110, 101, 120, 116] = wordsL := by decide +kernel
set_option maxRecDepth 100000 in
theorem words_ascii : ∀ b ∈ ([99, 111, 109, 109, 105, 116, 32, 112, 117, 115, 104, 56, 32, 112, 117, 115, 104, 49, 54, 32, 112, 117, 115, 104, 54, 52, 32, 100, 117, 112, 32, 100, 114, 111, 112, 32, 115, 119, 97, 112, 32, 111, 118, 101, 114, 32, 97, 100, 100, 32, 115, 117, 98, 32, 109, 117, 108, 32, 100, 105, 118, 32, 114, 101, 109, 32, 97, 110, 100, 32, 111, 114, 32, 120, 111, 114, 32, 110, 111, 116, 32, 115, 104, 108, 32, 115, 104, 114, 32, 117, 115, 104, 114, 32, 101, 113, 32, 108, 116, 32, 117, 108, 116, 32, 99, 111, 110, 118, 32, 106, 117, 109, 112, 32, 106, 117, 109, 112, 122, 32, 99, 97, 108, 108, 32, 114, 101, 116, 32, 97, 114, 103, 32, 116, 101, 108, 108, 32, 97, 98, 111, 114, 116, 32, 108, 111, 97, 100, 32, 115, 116, 111, 114, 101, 32, 99, 97, 100, 100, 32, 99, 103, 101, 116, 32, 99, 112, 117, 116, 32, 99, 100, 101, 108, 32, 99, 108, 101, 110, 32, 99, 104, 97, 115, 32, 99, 108, 101, 97, 115, 116, 32, 99, 110, 101, 120, 116] : List UInt8), b.toNat < 128 := by decide
theorem words_length : wordsL.length = 41 := by decide
set_option maxRecDepth 100000 in
theorem fields_words (w : World) (hE : Env w) : Calls Tryd.prog 10 #[.string ⟨#[99, 111, 109, 109, 105, 116, 32, 112, 117, 115, 104, 56, 32, 112, 117, 115, 104, 49, 54, 32, 112, 117, 115, 104, 54, 52, 32, 100, 117, 112, 32, 100, 114, 111, 112, 32, 115, 119, 97, 112, 32, 111, 118, 101, 114, 32, 97, 100, 100, 32, 115, 117, 98, 32, 109, 117, 108, 32, 100, 105, 118, 32, 114, 101, 109, 32, 97, 110, 100, 32, 111, 114, 32, 120, 111, 114, 32, 110, 111, 116, 32, 115, 104, 108, 32, 115, 104, 114, 32, 117, 115, 104, 114, 32, 101, 113, 32, 108, 116, 32, 117, 108, 116, 32, 99, 111, 110, 118, 32, 106, 117, 109, 112, 32, 106, 117, 109, 112, 122, 32, 99, 97, 108, 108, 32, 114, 101, 116, 32, 97, 114, 103, 32, 116, 101, 108, 108, 32, 97, 98, 111, 114, 116, 32, 108, 111, 97, 100, 32, 115, 116, 111, 114, 101, 32, 99, 97, 100, 100, 32, 99, 103, 101, 116, 32, 99, 112, 117, 116, 32, 99, 100, 101, 108, 32, 99, 108, 101, 110, 32, 99, 104, 97, 115, 32, 99, 108, 101, 97, 115, 116, 32, 99, 110, 101, 120, 116]⟩] w fun e w' =>
    e = .returned (.slice (some ⟨w.heap.size, 0, none⟩) 41 41) ∧ w' = w.alloc (.cells wordsV 9) := by
  refine (Tryd.strings_Fields ⟨#[99, 111, 109, 109, 105, 116, 32, 112, 117, 115, 104, 56, 32, 112, 117, 115, 104, 49, 54, 32, 112, 117, 115, 104, 54, 52, 32, 100, 117, 112, 32, 100, 114, 111, 112, 32, 115, 119, 97, 112, 32, 111, 118, 101, 114, 32, 97, 100, 100, 32, 115, 117, 98, 32, 109, 117, 108, 32, 100, 105, 118, 32, 114, 101, 109, 32, 97, 110, 100, 32, 111, 114, 32, 120, 111, 114, 32, 110, 111, 116, 32, 115, 104, 108, 32, 115, 104, 114, 32, 117, 115, 104, 114, 32, 101, 113, 32, 108, 116, 32, 117, 108, 116, 32, 99, 111, 110, 118, 32, 106, 117, 109, 112, 32, 106, 117, 109, 112, 122, 32, 99, 97, 108, 108, 32, 114, 101, 116, 32, 97, 114, 103, 32, 116, 101, 108, 108, 32, 97, 98, 111, 114, 116, 32, 108, 111, 97, 100, 32, 115, 116, 111, 114, 101, 32, 99, 97, 100, 100, 32, 99, 103, 101, 116, 32, 99, 112, 117, 116, 32, 99, 100, 101, 108, 32, 99, 108, 101, 110, 32, 99, 104, 97, 115, 32, 99, 108, 101, 97, 115, 116, 32, 99, 110, 101, 120, 116]⟩ w (by decide) (fun j b hb => words_ascii b (List.mem_of_getElem? hb)) hE.asc).mono fun e w' ⟨he, hw⟩ => ?_
  have e1 : Lib.fields (⟨#[99, 111, 109, 109, 105, 116, 32, 112, 117, 115, 104, 56, 32, 112, 117, 115, 104, 49, 54, 32, 112, 117, 115, 104, 54, 52, 32, 100, 117, 112, 32, 100, 114, 111, 112, 32, 115, 119, 97, 112, 32, 111, 118, 101, 114, 32, 97, 100, 100, 32, 115, 117, 98, 32, 109, 117, 108, 32, 100, 105, 118, 32, 114, 101, 109, 32, 97, 110, 100, 32, 111, 114, 32, 120, 111, 114, 32, 110, 111, 116, 32, 115, 104, 108, 32, 115, 104, 114, 32, 117, 115, 104, 114, 32, 101, 113, 32, 108, 116, 32, 117, 108, 116, 32, 99, 111, 110, 118, 32, 106, 117, 109, 112, 32, 106, 117, 109, 112, 122, 32, 99, 97, 108, 108, 32, 114, 101, 116, 32, 97, 114, 103, 32, 116, 101, 108, 108, 32, 97, 98, 111, 114, 116, 32, 108, 111, 97, 100, 32, 115, 116, 111, 114, 101, 32, 99, 97, 100, 100, 32, 99, 103, 101, 116, 32, 99, 112, 117, 116, 32, 99, 100, 101, 108, 32, 99, 108, 101, 110, 32, 99, 104, 97, 115, 32, 99, 108, 101, 97, 115, 116, 32, 99, 110, 101, 120, 116]⟩ : ByteArray).data.toList = wordsL := words_fields
  rw [e1] at he hw
  exact ⟨by rw [he, words_length], hw⟩
/-- The words that are entered when so many are. -/
def wordsE (k : Nat) : List (ByteArray × Value) := ((wordsL.take k).zipIdx).map fun p => (⟨p.1.toArray⟩, .int .i64 p.2)
theorem wordsE_succ (k : Nat) (h : k < wordsL.length) : wordsE (k + 1) = wordsE k ++ [(⟨wordsL[k].toArray⟩, .int .i64 k)] := by
  simp only [wordsE]
  rw [List.take_succ_eq_append_getElem h, List.zipIdx_append, List.map_append]
  simp [Nat.min_eq_left (Nat.le_of_lt h)]
theorem wordsE_look (s : List UInt8) (k : Nat) (hk : k ≤ wordsL.length) : lookL (wordsE k) ⟨s.toArray⟩ = ((wordsL.take k).findIdx? fun w => decide (s = w)).map fun i => .int .i64 i := by
  have key : ∀ (l : List (List UInt8)) (o : Nat), lookL ((l.zipIdx o).map fun p => ((⟨p.1.toArray⟩ : ByteArray), Value.int .i64 p.2)) ⟨s.toArray⟩ = (l.findIdx? fun w => decide (s = w)).map fun i => Value.int .i64 ((i + o : Nat) : Int) := by
    intro l
    induction l with
    | nil => intro o; rfl
    | cons x l ih =>
      intro o
      by_cases h : s = x
      · simp [lookL, h, List.findIdx?_cons]
      · have h2 : ¬ (⟨s.toArray⟩ : ByteArray) = ⟨x.toArray⟩ := fun e => h (bytes_inj.1 e)
        have := ih (o + 1)
        simp only [lookL, List.zipIdx_cons, List.map_cons, List.find?_cons, h2, decide_false, List.findIdx?_cons, h] at this ⊢
        rw [this]
        cases (List.findIdx? (fun w => decide (s = w)) l) with
        | none => rfl
        | some i => simp; omega
  exact key _ 0
theorem words_nodup : ∀ k, k < 41 → (wordsL.take k).findIdx? (fun w => decide (wordsL.getD k [] = w)) = none := by decide +kernel
theorem putL_new {κ : Type} [DecidableEq κ] (l : List (κ × Value)) (k : κ) (v : Value) (h : lookL l k = none) : putL l k v = l ++ [(k, v)] := by
  induction l with
  | nil => rfl
  | cons p l ih =>
    by_cases hk : k = p.1
    · simp [lookL, hk] at h
    · have h3 : lookL l k = none := by
        simp only [lookL, List.find?_cons, hk, decide_false] at h ⊢
        exact h
      simp only [putL, hk, if_false, List.cons_append, ih h3]
theorem codeOf_lt (s : List UInt8) (c : Nat) (h : codeOf s = some c) : c < 41 := by
  have := (List.findIdx?_eq_some_iff_findIdx_eq.1 h).1
  rw [words_length] at this
  exact this
/-- The memory of Parse before it reads lines: its results, the reader, the words. -/
structure Start (w wr : World) (b R M1 M2 G k : Nat) : Prop where
  outs : Outs wr b
  rd : wr.heap[R]? = some (.cells #[.map (some M1), .map (some M2), .slice none 0 0, .int .i64 0] 62 (0, 0))
  m1 : MapIs strK wr M1 (wordsE k)
  m2 : MapIs strK wr M2 []
  ws : wr.heap[G]? = some (.cells wordsV 9 (0, 0))
  bel : Below b w wr
  env : Env wr
theorem Start.step {w wr w1 : World} {b R M1 M2 G k : Nat} (h : Start w wr b R M1 M2 G k) (hb : 11 < b) (hN : b + 1 + 1 + 1 = M1 ∧ M1 + 1 = M2 ∧ M2 + 1 = R ∧ R + 1 = G) (hg : wr.grownBy w1 (some M1)) (hm : MapIs strK w1 M1 (wordsE (k + 1))) : Start w w1 b R M1 M2 G (k + 1) where
  outs := by
    obtain ⟨⟨s, h0⟩, ⟨e, h1⟩, ⟨a, h2⟩⟩ := h.outs
    exact ⟨⟨s, by rw [hg.block _ (heap_lt h0) (by simp; omega)]; exact h0⟩, ⟨e, by rw [hg.block _ (heap_lt h1) (by simp; omega)]; exact h1⟩, ⟨a, by rw [hg.block _ (heap_lt h2) (by simp; omega)]; exact h2⟩⟩
  rd := by rw [hg.block _ (heap_lt h.rd) (by simp; omega)]; exact h.rd
  m1 := hm
  m2 := h.m2.of_block strK (hg.block _ (h.m2.lt strK) (by simp; omega))
  ws := by rw [hg.block _ (heap_lt h.ws) (by simp; omega)]; exact h.ws
  bel := h.bel.grown hg (by have := heap_lt h.ws; omega) (fun k hk => by cases hk; omega)
  env := h.env.of_blocks hg.size fun k hk => hg.block k (by have := heap_lt h.ws; omega) (by simp; omega)
theorem start_world (w : World) (hE : Env w) : Start w
    (((((((w.alloc (.cells #[.string ⟨#[]⟩] 9)).alloc (.cells #[.int .i64 0] 22)).alloc (.cells #[.int .i64 0] 3)).alloc (.map #[] 0)).alloc (.map #[] 0)).alloc
      (.cells #[.map (some (w.heap.size + 1 + 1 + 1)), .map (some (w.heap.size + 1 + 1 + 1 + 1)), .slice none 0 0, .int .i64 0] 62)).alloc (.cells wordsV 9))
    w.heap.size (w.heap.size + 1 + 1 + 1 + 1 + 1) (w.heap.size + 1 + 1 + 1) (w.heap.size + 1 + 1 + 1 + 1) (w.heap.size + 1 + 1 + 1 + 1 + 1 + 1) 0 := by
  have e : ∀ (W : World) (o : Obj), (W.alloc o).heap.size = W.heap.size + 1 := fun W o => by show (W.heap.push o).size = _; simp
  have n0 := heap_new w (.cells #[.string ⟨#[]⟩] 9)
  have n1 := heap_new (w.alloc (.cells #[.string ⟨#[]⟩] 9)) (.cells #[.int .i64 0] 22)
  have n2 := heap_new ((w.alloc (.cells #[.string ⟨#[]⟩] 9)).alloc (.cells #[.int .i64 0] 22)) (.cells #[.int .i64 0] 3)
  have n3 := heap_new (((w.alloc (.cells #[.string ⟨#[]⟩] 9)).alloc (.cells #[.int .i64 0] 22)).alloc (.cells #[.int .i64 0] 3)) (.map #[] 0)
  have n4 := heap_new ((((w.alloc (.cells #[.string ⟨#[]⟩] 9)).alloc (.cells #[.int .i64 0] 22)).alloc (.cells #[.int .i64 0] 3)).alloc (.map #[] 0)) (.map #[] 0)
  have n5 := heap_new (((((w.alloc (.cells #[.string ⟨#[]⟩] 9)).alloc (.cells #[.int .i64 0] 22)).alloc (.cells #[.int .i64 0] 3)).alloc (.map #[] 0)).alloc (.map #[] 0)) (.cells #[.map (some (w.heap.size + 1 + 1 + 1)), .map (some (w.heap.size + 1 + 1 + 1 + 1)), .slice none 0 0, .int .i64 0] 62)
  simp only [e] at n1 n2 n3 n4 n5
  refine ⟨⟨⟨⟨#[]⟩, ?_⟩, ⟨0, ?_⟩, ⟨0, ?_⟩⟩, ?_, ⟨#[], 0, ?_, rfl⟩, ⟨#[], 0, ?_, rfl⟩, ?_, ?_, ?_⟩
  · exact heap_old _ (heap_old _ (heap_old _ (heap_old _ (heap_old _ (heap_old _ n0)))))
  · exact heap_old _ (heap_old _ (heap_old _ (heap_old _ (heap_old _ n1))))
  · exact heap_old _ (heap_old _ (heap_old _ (heap_old _ n2)))
  · exact heap_old _ n5
  · exact heap_old _ (heap_old _ (heap_old _ n3))
  · exact heap_old _ (heap_old _ n4)
  · have := heap_new ((((((w.alloc (.cells #[.string ⟨#[]⟩] 9)).alloc (.cells #[.int .i64 0] 22)).alloc (.cells #[.int .i64 0] 3)).alloc (.map #[] 0)).alloc (.map #[] 0)).alloc (.cells #[.map (some (w.heap.size + 1 + 1 + 1)), .map (some (w.heap.size + 1 + 1 + 1 + 1)), .slice none 0 0, .int .i64 0] 62)) (.cells wordsV 9)
    simp only [e] at this
    exact this
  · exact ((((((((Below.refl _ _).alloc (by simp) _).alloc (by simp) _).alloc (by simp; omega) _).alloc (by simp; omega) _).alloc (by simp; omega) _).alloc (by simp; omega) _).alloc (by simp; omega) _)
  · exact ((((((hE.alloc _).alloc _).alloc _).alloc _).alloc _).alloc _).alloc _

def linesV (t : List UInt8) : Array Value := ((splitL t).map fun x => Value.string ⟨x.toArray⟩).toArray
theorem split_any (t : ByteArray) (w : World) (hE : Env w) (ht : t.size ≤ 1048576) :
    Calls Tryd.prog 22 #[.string t, .string ⟨#[10]⟩] w fun e w' =>
      e = .returned (.slice (some ⟨w.heap.size, 0, none⟩) (splitL t.data.toList).length (splitL t.data.toList).length) ∧ w' = w.alloc (.cells (linesV t.data.toList) 9) := by
  obtain ⟨m, hm⟩ := hE.maxlen
  refine (Tryd.strings_Split t ⟨#[10]⟩ m w (by omega) hm (by decide)).mono fun e w' ⟨he, hw⟩ => ?_
  have h1 : (Lib.splitB ⟨#[10]⟩ 0 (Lib.countB t ⟨#[10]⟩) t).map (·.data.toList) = splitL t.data.toList := by
    rw [Lib.splitB_data]
    exact split_lines _
  have h2 : Lib.countB t ⟨#[10]⟩ = t.data.toList.count 10 := countFrom_ten _ _ (Nat.lt_succ_self _)
  refine ⟨by rw [he, h2, splitL_length], ?_⟩
  rw [hw, linesV, ← h1, List.map_map]
  congr 3
theorem splitL_sum (l : List UInt8) : ((splitL l).map fun x => x.length + 1).sum = l.length + 1 := by
  induction l with
  | nil => rfl
  | cons b t ih =>
    simp only [splitL]
    by_cases h : b = 10
    · simp [h, ih]; omega
    · rw [if_neg h]
      cases hs : splitL t with
      | nil => exact absurd hs (splitL_ne t)
      | cons x xs => rw [hs] at ih; simp at ih ⊢; omega
theorem goodX_snoc {xs : List InsR} {x : InsR} (h : ∀ y ∈ xs, goodX y) (hx : goodX x) : ∀ y ∈ xs ++ [x], goodX y := by
  intro y hy
  rcases List.mem_append.1 hy with hy | hy
  · exact h y hy
  · simp at hy; subst hy; exact hx
theorem flat5 (xs : List InsR) : ∀ (k : Nat) (x : InsR), xs[k]? = some x → (cellsR xs)[k * 5]? = some (.int .i64 x.c) ∧ (cellsR xs)[k * 5 + 1]? = some (.int .i64 x.o) ∧ (cellsR xs)[k * 5 + 2]? = some (.int .i64 x.p) ∧ (cellsR xs)[k * 5 + 3]? = some (.string ⟨x.nm.toArray⟩) ∧ (cellsR xs)[k * 5 + 4]? = some (.int .i64 x.na) := by
  induction xs with
  | nil => intro k x h; simp at h
  | cons y xs ih =>
    intro k x h
    cases k with
    | zero => simp at h; subst h; simp [cellsR]
    | succ k =>
      have := ih k x (by simpa using h)
      simp only [cellsR, List.flatMap_cons, List.cons_append, List.nil_append] at this ⊢
      rw [show (k + 1) * 5 = k * 5 + 5 by omega]
      simpa using this
theorem row5 {w : World} {B g cap n : Nat} {xs : List InsR} (h : w.ownsRow B 70 5 (.slice (some ⟨g, 0, none⟩) n cap) n (cellsR xs)) {k : Nat} {x : InsR} (hx : xs[k]? = some x) :
    w.cell? ⟨g, k * 5, none⟩ = some (.int .i64 x.c) ∧ w.cell? ⟨g, k * 5 + 1, none⟩ = some (.int .i64 x.o) ∧ w.cell? ⟨g, k * 5 + 2, none⟩ = some (.int .i64 x.p) ∧ w.cell? ⟨g, k * 5 + 3, none⟩ = some (.string ⟨x.nm.toArray⟩) ∧ w.cell? ⟨g, k * 5 + 4, none⟩ = some (.int .i64 x.na) := by
  have key : ∀ j u, (cellsR xs)[j]? = some u → w.cell? ⟨g, j, none⟩ = some u := fun j u hu => by
    have hj : j < (cellsR xs).length := by
      rcases Nat.lt_or_ge j (cellsR xs).length with h | h
      · exact h
      · rw [List.getElem?_eq_none h] at hu; cases hu
    rw [own_cell h j hj]
    rw [List.getElem?_eq_getElem hj] at hu
    exact hu
  obtain ⟨a0, a1, a2, a3, a4⟩ := flat5 xs k x hx
  exact ⟨key _ _ a0, key _ _ a1, key _ _ a2, key _ _ a3, key _ _ a4⟩
theorem Outs.cells {w : World} {b b1 b2 : Nat} (h : Outs w b) (h1 : b + 1 = b1) (h2 : b1 + 1 = b2) : ∃ s e a, w.cell? ⟨b, 0, none⟩ = some (.string s) ∧ w.cell? ⟨b1, 0, none⟩ = some (.int .i64 e) ∧ w.cell? ⟨b2, 0, none⟩ = some (.int .i64 a) ∧
    w.frozen? ⟨b, 0, none⟩ = false ∧ w.frozen? ⟨b1, 0, none⟩ = false ∧ w.frozen? ⟨b2, 0, none⟩ = false ∧
    Hid (w.heap[b]? = some (.cells #[.string s] 9 (0, 0)) ∧ w.heap[b1]? = some (.cells #[.int .i64 e] 22 (0, 0)) ∧ w.heap[b2]? = some (.cells #[.int .i64 a] 3 (0, 0))) := by
  subst h1 h2
  obtain ⟨⟨s, h0⟩, ⟨e, h1⟩, ⟨a, h2⟩⟩ := h
  have c0 := box_cell h0 0
  have c1 := box_cell h1 0
  have c2 := box_cell h2 0
  simp at c0 c1 c2
  exact ⟨s, e, a, c0, c1, c2, box_free h0 0, box_free h1 0, box_free h2 0, h0, h1, h2⟩
theorem out_sets {w : World} {b : Nat} {s : ByteArray} {e a : Int} (o : ByteArray) (k0 : w.heap[b]? = some (.cells #[.string s] 9 (0, 0))) (k1 : w.heap[b + 1]? = some (.cells #[.int .i64 e] 22 (0, 0))) (k2 : w.heap[b + 1 + 1]? = some (.cells #[.int .i64 a] 3 (0, 0))) :
    ((((w.setCell ⟨b, 0, none⟩ (.string o)).setCell ⟨b, 0, none⟩ (.string o)).setCell ⟨b + 1, 0, none⟩ (.int .i64 0)).setCell ⟨b + 1 + 1, 0, none⟩ (.int .i64 0)).heap[b]? = some (.cells #[.string o] 9 (0, 0)) ∧
    ((((w.setCell ⟨b, 0, none⟩ (.string o)).setCell ⟨b, 0, none⟩ (.string o)).setCell ⟨b + 1, 0, none⟩ (.int .i64 0)).setCell ⟨b + 1 + 1, 0, none⟩ (.int .i64 0)).heap[b + 1]? = some (.cells #[.int .i64 0] 22 (0, 0)) ∧
    ((((w.setCell ⟨b, 0, none⟩ (.string o)).setCell ⟨b, 0, none⟩ (.string o)).setCell ⟨b + 1, 0, none⟩ (.int .i64 0)).setCell ⟨b + 1 + 1, 0, none⟩ (.int .i64 0)).heap[b + 2]? = some (.cells #[.int .i64 0] 3 (0, 0)) := by
  refine ⟨?_, ?_, ?_⟩
  · rw [Below.heap_setCell _ _ _ _ (by simp; omega), Below.heap_setCell _ _ _ _ (by simp)]
    have h1 := set_heap k0 0 (.string o)
    rw [set_heap h1]
    rfl
  · rw [Below.heap_setCell _ _ _ _ (by simp)]
    have h1 := (Below.heap_setCell w ⟨b, 0, none⟩ (.string o) (b + 1) (by simp)).trans k1
    have h2 := (Below.heap_setCell (w.setCell ⟨b, 0, none⟩ (.string o)) ⟨b, 0, none⟩ (.string o) (b + 1) (by simp)).trans h1
    rw [set_heap h2]
    rfl
  · have h1 := (Below.heap_setCell w ⟨b, 0, none⟩ (.string o) (b + 1 + 1) (by simp; omega)).trans k2
    have h2 := (Below.heap_setCell (w.setCell ⟨b, 0, none⟩ (.string o)) ⟨b, 0, none⟩ (.string o) (b + 1 + 1) (by simp; omega)).trans h1
    have h3 := (Below.heap_setCell _ ⟨b + 1, 0, none⟩ (.int .i64 0) (b + 1 + 1) (by simp)).trans h2
    show (World.setCell _ ⟨b + 1 + 1, 0, none⟩ _).heap[b + 1 + 1]? = _
    rw [set_heap h3]
    rfl
theorem Outs.drewN {w : World} {b : Nat} (h : Outs w b) (n : Nat) : Outs (w.drewN n) b := ⟨h.h0, h.h1, h.h2⟩
theorem _root_.Go.RowKit.Below.drewN {B : Nat} {w w' : World} (h : Below B w w') (n : Nat) : Below B w (w'.drewN n) := ⟨h.os, h.tape, h.output, h.size, h.block⟩
theorem sub_wrap (n p : Nat) (hn : n ≤ 512) (hp : p ≤ 512) : wrap64 ((n : Int) - wrap64 ((p : Int) + 3)) = (n : Int) - ((p : Int) + 3) := by
  unfold wrap64
  omega
/-- The memory of Parse between two lines. -/
structure Loop2 (w wr : World) (b R M1 M2 : Nat) (st : PSt) (lv : Value) : Prop where
  outs : Outs wr b
  rd : RdAt wr M1 R M1 M2 codeOf (labV st.ls) lv st.xs st.size
  bel : Below b w wr
  env : Env wr
  good : goodS st
theorem Outs.below {w w' : World} {b B : Nat} (h : Outs w b) (hb : Below B w w') (hB : b + 2 < B) : Outs w' b := by
  obtain ⟨⟨s, h0⟩, ⟨e, h1⟩, ⟨a, h2⟩⟩ := h
  exact ⟨⟨s, by rw [hb.block _ (by omega)]; exact h0⟩, ⟨e, by rw [hb.block _ (by omega)]; exact h1⟩, ⟨a, by rw [hb.block _ hB]; exact h2⟩⟩
theorem Loop2.far {w wr w1 w2 : World} {b R M1 M2 : Nat} {st : PSt} {lv : Value} (h : Loop2 w wr b R M1 M2 st lv) (hM : b ≤ M1 ∧ 11 < b ∧ b + 2 < M1) (hz : M1 ≤ wr.heap.size) (hb : Below wr.heap.size wr w1) (hf : FrameR w1 w2 R M2 lv) :
    Below M1 wr w2 ∧ Below b w w2 ∧ Outs w2 b := by
  have hb2 : Below M1 wr w2 := (hb.mono hz).trans (hf.below (h.rd.below hb))
  exact ⟨hb2, h.bel.trans (hb2.mono hM.1), h.outs.below hb2 hM.2.2⟩
theorem Loop2.step {w wr w1 w2 : World} {b R M1 M2 : Nat} {st st' : PSt} {lv lv' : Value} (h : Loop2 w wr b R M1 M2 st lv) (hM : b ≤ M1 ∧ 11 < b ∧ b + 2 < M1) (hz : M1 ≤ wr.heap.size) (hb : Below wr.heap.size wr w1) (hf : FrameR w1 w2 R M2 lv)
    (hr : RdAt w2 M1 R M1 M2 codeOf (labV st'.ls) lv' st'.xs st'.size) (hg : goodS st') : Loop2 w w2 b R M1 M2 st' lv' where
  outs := (h.far hM hz hb hf).2.2
  rd := hr
  bel := (h.far hM hz hb hf).2.1
  env := h.env.below (h.far hM hz hb hf).1 (by omega)
  good := hg
theorem Start.reader {w wr : World} {b R M1 M2 G : Nat} (h : Start w wr b R M1 M2 G 41) (hb : 11 < b) (hN : b + 1 + 1 + 1 = M1 ∧ M1 + 1 = M2 ∧ M2 + 1 = R ∧ R + 1 = G) : RdAt wr M1 R M1 M2 codeOf (labV []) (.slice none 0 0) [] 0 where
  b11 := by omega
  bR := by omega
  bM1 := Nat.le_refl _
  bM2 := by omega
  ne := by omega
  cells := h.rd
  cmap := by
    refine ⟨_, h.m1, fun s => ?_, codeOf_lt⟩
    have := wordsE_look s.data.toList 41 (by rw [words_length]; omega)
    rw [List.take_of_length_le (by rw [words_length]; omega)] at this
    exact this
  lmap := h.m2
  row := World.ownsRow_nil _ _ _ _
  few := ⟨by simp, by omega⟩
theorem flat2 {α : Type} (f g : α → Value) : ∀ (ts : List α) (i : Nat), (ts.flatMap fun t => [f t, g t])[i * 2]? = ts[i]?.map f ∧ (ts.flatMap fun t => [f t, g t])[i * 2 + 1]? = ts[i]?.map g
  | [], i => by simp
  | t :: ts, 0 => by simp
  | t :: ts, i + 1 => by
    have := flat2 f g ts i
    simp only [List.flatMap_cons, List.cons_append, List.nil_append, List.getElem?_cons_succ]
    rw [show (i + 1) * 2 = i * 2 + 1 + 1 by omega]
    simpa using this
theorem toksF_bound (l : List UInt8) (t : List UInt8 × Nat) (ht : t ∈ toksF l) : t.2 + t.1.length ≤ l.length := by
  have h1 := (tk_bound _ 0 [] (by simp) t ht).1
  have h2 := cutHash_le l
  omega
/-- The line's call on what the tokens' call gave. -/
theorem line_toks (B R M1 M2 : Nat) (codes : List UInt8 → Option Nat) (ls : Labs) (lv : Value) (xs : List InsR) (size a : Nat) (l : List UInt8) (v : Value) (B' : Nat) (w : World)
    (hR : RdAt w B R M1 M2 codes (labV ls) lv xs size) (hE : Env w) (hB : B ≤ w.heap.size) (hl : l.length ≤ 1048576) (ha : a ≤ 1048576)
    (hv : w.ownsRow B' 68 2 v (toksF l).length (cellsT a (toksF l))) :
    Calls Tryd.prog 23 #[.pointer (some ⟨R, 0, none⟩), v] w (LinePost lv w B R M1 M2 codes ls xs size (toksAt a l)) := by
  rcases own_form hv with ⟨rfl, h0⟩ | ⟨g, cap, rfl, _, hg, hc, hm⟩
  · have h1 : toksF l = [] := List.length_eq_zero_iff.1 h0
    have h2 : toksAt a l = [] := by rw [toksAt, h1]; rfl
    rw [h2]
    exact line_nil B R M1 M2 codes ls lv xs size none 0 w hR
  · cases h1 : toksF l with
    | nil =>
      have h2 : toksAt a l = [] := by rw [toksAt, h1]; rfl
      rw [h2]
      exact line_nil B R M1 M2 codes ls lv xs size _ cap w hR
    | cons t0 ts =>
      have h2 : toksAt a l = (t0.1, ((a + t0.2 : Nat) : Int)) :: ts.map fun t => (t.1, ((a + t.2 : Nat) : Int)) := by rw [toksAt, h1]; rfl
      have hcnt : (toksF l).length ≤ l.length + 1 := Nat.le_trans (tk_count _ _ _) (by have := cutHash_le l; omega)
      have hT : TokAt w g 0 (toksAt a l) := by
        refine ⟨by simp [toksAt]; omega, fun t ht => ?_, hg, fun i t ht => ?_⟩
        · simp only [toksAt, List.mem_map] at ht
          obtain ⟨t', ht', rfl⟩ := ht
          have := toksF_bound l t' ht'
          exact ⟨by simp; omega, by simp; omega, by simp; omega⟩
        · have hf := flat2 (fun t : List UInt8 × Nat => Value.string ⟨t.1.toArray⟩) (fun t => Value.int .i64 ((a : Int) + t.2)) (toksF l) i
          simp only [toksAt, List.getElem?_map, Option.map_eq_some_iff] at ht
          obtain ⟨t', ht', rfl⟩ := ht
          have key : ∀ j u, (cellsT a (toksF l))[j]? = some u → w.cell? ⟨g, j, none⟩ = some u := fun j u hu => by
            have hj : j < (cellsT a (toksF l)).length := by
              rcases Nat.lt_or_ge j (cellsT a (toksF l)).length with h | h
              · exact h
              · rw [List.getElem?_eq_none h] at hu; cases hu
            rw [own_cell hv j hj]
            rw [List.getElem?_eq_getElem hj] at hu
            exact hu
          rw [ht'] at hf
          refine ⟨?_, ?_⟩
          · rw [Nat.zero_add]; exact key _ _ hf.1
          · rw [Nat.zero_add]
            have := key _ _ hf.2
            simpa using this
      rw [h2] at hT ⊢
      have hln : (toksF l).length = (ts.map fun t => (t.1, ((a + t.2 : Nat) : Int))).length + 1 := by rw [h1]; simp
      have := line_some B R M1 M2 codes ls lv xs size g 0 cap _ _ w hR hE hB hT (by omega) hm
      rw [← hln, h1] at this
      exact this
theorem encOut_R : ∀ (xs : List Ins) (acc : List UInt8), encOut.encR' xs acc = (match encR xs acc with | .ok l => some l | .error _ => none)
  | [], acc => rfl
  | x :: xs, acc => by
    simp only [encOut.encR', encR]
    split
    · split
      · rfl
      · exact encOut_R xs _
    · rfl
theorem enc_out {w w' : World} {xs : List Ins} {e : Ending} (h : EncPost w xs e w') : Below w.heap.size w w' ∧ ∃ n k : Int, e = .returned (.tuple #[.string ⟨(encOut xs).toArray⟩, .int .i64 n, .int .i64 k]) := by
  obtain ⟨h1, h2⟩ := h
  refine ⟨h1, ?_⟩
  rw [encOut, encOut_R]
  cases he : encR xs [] with
  | error n =>
    rw [he] at h2
    obtain ⟨k, rfl⟩ := h2
    exact ⟨n, k, rfl⟩
  | ok l =>
    rw [he] at h2
    exact ⟨0, 0, h2⟩
theorem ops_own {w : World} {B : Nat} {v : Value} {xs : List Ins} (h : w.ownsRow B 35 2 v xs.length (cellsI xs)) (hn : xs.length ≤ 1048576) (hg : ∀ x ∈ xs, x.c < 41 ∧ x.in64) : OpsAt w v xs := by
  refine ⟨hn, hg, ?_⟩
  rcases own_form h with ⟨rfl, h0⟩ | ⟨g, cap, rfl, _, h2, _, _⟩
  · exact .inl ⟨rfl, List.length_eq_zero_iff.1 h0⟩
  · refine .inr ⟨g, cap, rfl, h2, fun i x hx => ?_⟩
    have hf := flat2 (fun x : Ins => Value.int .i64 x.c) (fun x => Value.int .i64 x.o) xs i
    rw [hx] at hf
    have key : ∀ j u, (cellsI xs)[j]? = some u → w.cell? ⟨g, j, none⟩ = some u := fun j u hu => by
      have hj : j < (cellsI xs).length := by
        rcases Nat.lt_or_ge j (cellsI xs).length with h | h
        · exact h
        · rw [List.getElem?_eq_none h] at hu; cases hu
      rw [own_cell h j hj]
      rw [List.getElem?_eq_getElem hj] at hu
      exact hu
    exact ⟨key _ _ hf.1, key _ _ hf.2⟩
def ParsePost (w : World) (t : List UInt8) (e : Ending) (w' : World) : Prop :=
  Below w.heap.size w w' ∧
  match parseF t with
  | .error (n, a) => e = .returned (.tuple #[.string ⟨#[]⟩, .int .i64 n, .int .i64 a])
  | .ok l => e = .returned (.tuple #[.string ⟨l.toArray⟩, .int .i64 0, .int .i64 0])
set_option maxRecDepth 100000 in
set_option maxHeartbeats 3200000 in
theorem parse_any (t : ByteArray) (w : World) (hE : Env w) (ht : t.size ≤ 1048576) :
    Calls Tryd.prog 7 #[.string t] w (ParsePost w t.data.toList) := by
  have hmf : ∀ (fn : Fn) (first cap : Array Value) (w : World), (Instr.makeFunc fn first cap).run Tryd.prog w = .ok (.func fn first cap) w := fun _ _ _ _ => rfl
  have hmm := @run_makeMap Tryd.prog
  obtain ⟨i0, hi, hz0, hz1, hz2⟩ := info_parts infoOp
  go_enter_defers Tryd.func7, Tryd.ntmps7
  go_wp2_with ((go_at_call 10; refine (fields_words _ (by exact (((((hE.alloc _).alloc _).alloc _).alloc _).alloc _).alloc _)).mono ?_; rintro e w' ⟨rfl, rfl⟩))
  have hst := start_world w hE
  generalize hW : (((((((w.alloc (.cells #[.string ⟨#[]⟩] 9)).alloc (.cells #[.int .i64 0] 22)).alloc (.cells #[.int .i64 0] 3)).alloc (.map #[] 0)).alloc (.map #[] 0)).alloc
      (.cells #[.map (some (w.heap.size + 1 + 1 + 1)), .map (some (w.heap.size + 1 + 1 + 1 + 1)), .slice none 0 0, .int .i64 0] 62)).alloc (.cells wordsV 9)) = W at *
  generalize hb1 : w.heap.size + 1 = b1 at *
  generalize hb2 : b1 + 1 = b2 at *
  generalize hm1 : b2 + 1 = M1 at *
  generalize hm2 : M1 + 1 = M2 at *
  generalize hr : M2 + 1 = R at *
  generalize hg : R + 1 = G at *
  have HN : Hid (w.heap.size + 1 = b1 ∧ b1 + 1 = b2 ∧ b2 + 1 = M1 ∧ M1 + 1 = M2 ∧ M2 + 1 = R ∧ R + 1 = G) := ⟨hb1, hb2, hm1, hm2, hr, hg⟩
  have HS := Lib.hid hst
  have HE := Lib.hid hE
  clear hst hE hW hb1 hb2 hm1 hm2 hr hg
  go_loopw [6, 7, 23] (fun _ _ i wr => ∃ k : Nat, i = .int .i64 k ∧ k ≤ 41 ∧ Hid (Start w wr w.heap.size R M1 M2 G k)) (fun _ _ i _ => 41 - (intOf i).toNat)
  case atStart => exact ⟨0, rfl, by omega, HS.out⟩
  case round =>
    obtain ⟨k, rfl, hk, HS⟩ := hrel
    by_cases hlt : k < 41
    · have hkl : k < wordsL.length := by rw [words_length]; exact hlt
      have c0 := box_cell HS.out.rd 0
      have cg := box_cell HS.out.ws k
      simp only [List.getElem?_toArray, List.getElem?_cons_zero] at c0
      have cg' : wr.cell? ⟨G, k, none⟩ = some (.string ⟨wordsL[k].toArray⟩) := by rw [cg]; simp [wordsV, hkl]
      obtain ⟨w1, hput, hmp, hgp⟩ := HS.out.m1.put strK Tryd.underlying59 ⟨wordsL[k].toArray⟩ (.int .i64 k)
      rw [putL_new _ _ _ (by rw [wordsE_look _ _ (by omega)]; have := words_nodup k hlt; rw [List.getD_eq_getElem?_getD, List.getElem?_eq_getElem hkl] at this; simp only [Option.getD_some] at this; rw [this]; rfl), ← wordsE_succ k hkl] at hmp
      have hput' : (Instr.mapUpdate 59 (.map (some M1)) (.string ⟨wordsL[k].toArray⟩) (.int .i64 k)).run Tryd.prog wr = .ok () w1 := hput
      have HMP := Lib.hid hmp
      have HGP := Lib.hid hgp
      clear hput hmp hgp cg
      go_wp2
      go_roundw
      case rel => exact ⟨k + 1, by go_num, by omega, HS.out.step HE.out.big (by have := HN.out; omega) HGP.out HMP.out⟩
      case measure => first | (simp [intOf]; done) | (simp [intOf]; omega)
    · obtain rfl : k = 41 := by omega
      have hR0 := HS.out.reader HE.out.big (by have := HN.out; omega)
      obtain ⟨wo, rfl⟩ : ∃ wo : World, wo = wr := ⟨_, rfl⟩
      obtain ⟨n, hn⟩ : ∃ n, (splitL t.data.toList).length = n := ⟨_, rfl⟩
      have hsp := split_any t wo HS.out.env ht
      rw [hn] at hsp
      have HSp := Lib.hid hsp
      have HNn := Lib.hid hn
      have hn2 : n ≤ 1048577 := by rw [← hn, splitL_length]; have := List.count_le_length (a := (10 : UInt8)) (l := t.data.toList); rw [Array.length_toList] at this; have h3 : t.data.size = t.size := rfl; omega
      have HSum := Lib.hid (splitL_sum t.data.toList)
      have HL : Hid (Loop2 w wo w.heap.size R M1 M2 ⟨[], [], 0⟩ (.slice none 0 0)) := ⟨HS.out.outs, hR0, HS.out.bel, HS.out.env, by simp [goodS]⟩
      have hMs : M1 ≤ wo.heap.size := by have := heap_lt HS.out.ws; have := HN.out; omega
      have HM := Lib.hid (show w.heap.size ≤ M1 ∧ 11 < w.heap.size ∧ w.heap.size + 2 < M1 from by have := HN.out; have := HE.out.big; omega)
      clear hR0 hsp hn
      go_wp2_with ((go_at_call 22; refine HSp.out.mono ?_; rintro e w' ⟨rfl, rfl⟩))
      obtain ⟨LB, hLB⟩ : ∃ LB, wo.heap.size = LB := ⟨_, rfl⟩
      have hGL : G < LB := hLB ▸ heap_lt HS.out.ws
      have hnew := heap_new wo (.cells (linesV t.data.toList) 9)
      rw [hLB] at hnew ⊢
      go_loopw [8, 10, 38] (fun fr _ i wr => ∃ (k a : Nat) (st : PSt) (lv : Value), i = .int .i64 k ∧ fr = .int .i64 a ∧ k ≤ n ∧
          Hid (runL codeOf (splitL t.data.toList) 0 ⟨[], [], 0⟩ = runL codeOf ((splitL t.data.toList).drop k) a st ∧ a + (((splitL t.data.toList).drop k).map fun x => x.length + 1).sum = t.size + 1 ∧ Loop2 w wr w.heap.size R M1 M2 st lv ∧ wr.heap[LB]? = some (.cells (linesV t.data.toList) 9 (0, 0)) ∧ M1 ≤ wr.heap.size)) (fun _ _ i _ => n - (intOf i).toNat)
      case atStart =>
        have hbl : Below wo.heap.size wo (wo.alloc (.cells (linesV t.data.toList) 9)) := (Below.refl _ _).alloc (Nat.le_refl _) _
        refine ⟨0, 0, ⟨[], [], 0⟩, _, rfl, rfl, by omega, rfl, ?_, HL.out.step HM.out hMs hbl (FrameR.refl _ _ _ _) (HL.out.rd.below hbl) (by simp [goodS]), hnew, by simp; omega⟩
        have := HSum.out
        rw [Array.length_toList] at this
        rw [List.drop_zero, this]
        have h3 : t.data.size = t.size := rfl
        omega
      case round =>
        obtain ⟨k, a, st, lv, rfl, rfl, hk, HK⟩ := hrel
        by_cases hlt : k < n
        · obtain ⟨hrun, hsum, HL2, hlb, hz⟩ := HK.out
          have hkl : k < (splitL t.data.toList).length := by rw [HNn.out]; exact hlt
          rw [List.drop_eq_getElem_cons hkl] at hrun hsum
          generalize hl : (splitL t.data.toList)[k] = l at hrun hsum
          simp only [List.map_cons, List.sum_cons] at hsum
          have hcl : wr.cell? ⟨LB, k, none⟩ = some (.string ⟨l.toArray⟩) := by rw [box_cell hlb]; simp [linesV, hkl, hl]
          have hls : (⟨l.toArray⟩ : ByteArray).size = l.length := by show (List.toArray _).size = _; simp
          have HTK := Lib.hid (tokens_any ⟨l.toArray⟩ a wr (by omega) (by omega) (by omega) HL2.env)
          have hsz := HL2.rd.few
          have hgd := HL2.good
          have HRun := Lib.hid hrun
          have HL3 := Lib.hid HL2
          have Hlb := Lib.hid hlb
          have Hsum := Lib.hid hsum
          have hll : l.length ≤ 1048576 := by omega
          have haa : a ≤ 1048576 := by omega
          clear hrun HL2 hlb
          cases hline : lineF codeOf st.ls st.size (toksAt a l) with
          | error x =>
            obtain ⟨n9, a9⟩ := x
            have HLine := Lib.hid hline
            clear hline
            go_wp2_with (first | (go_at_call 24; refine HTK.out.mono ?_; rintro e w1 ⟨hb1, v, rfl, hv⟩) | (go_at_call 23; refine (line_toks M1 R M1 M2 codeOf st.ls lv st.xs st.size a l v wr.heap.size w1 (HL3.out.rd.below hb1) (HL3.out.env.grown hb1) (Nat.le_trans hz hb1.size) hll haa hv).mono ?_; rintro e w2 ⟨hf, hx⟩; rw [HLine.out] at hx; unfold gaveUp at hx; obtain rfl := hx))
            obtain ⟨_, hbf, hof⟩ := HL3.out.far HM.out hz hb1 hf
            obtain ⟨rfl, rfl, _⟩ := HN.out
            refine door_fault w w2 w.heap.size n9 a9 _ _ hof hbf rfl rfl rfl fun w' hb' => ⟨hb', ?_⟩
            have : parseF t.data.toList = .error (n9, a9) := by rw [parseF, HRun.out, runL, HLine.out]
            rw [this]
          | ok x =>
            obtain ⟨ls', r⟩ := x
            have hgood := lineF_good (fun s c => codeOf_lt s c) hsz.2 hline hgd.1
            have HLine := Lib.hid hline
            clear hline
            cases r with
            | none =>
              go_wp2_with (first | (go_at_call 24; refine HTK.out.mono ?_; rintro e w1 ⟨hb1, v, rfl, hv⟩) | (go_at_call 23; refine (line_toks M1 R M1 M2 codeOf st.ls lv st.xs st.size a l v wr.heap.size w1 (HL3.out.rd.below hb1) (HL3.out.env.grown hb1) (Nat.le_trans hz hb1.size) hll haa hv).mono ?_; rintro e w2 ⟨hf, hx⟩; rw [HLine.out] at hx; obtain ⟨rfl, lv2, hr2⟩ := hx))
              have hlb2 : w2.heap[LB]? = some (.cells (linesV t.data.toList) 9 (0, 0)) := by
                rw [hf.block LB (Nat.lt_of_lt_of_le (heap_lt Hlb.out) hb1.size) (by have := HN.out; omega) (by have := HN.out; omega) (own_ne_box (own_below HL3.out.rd.row hb1) (hb1.block _ (heap_lt Hlb.out) ▸ Hlb.out) (by decide)), hb1.block _ (heap_lt Hlb.out)]
                exact Hlb.out
              go_roundw
              case rel => exact ⟨k + 1, a + l.length + 1, ⟨ls', st.xs, st.size⟩, lv2, by go_num, by go_num, by omega, ⟨by rw [HRun.out, runL, HLine.out], by omega, HL3.out.step HM.out hz hb1 hf hr2 ⟨hgood.1, hgd.2⟩, hlb2, by have := hb1.size; have := hf.size; omega⟩⟩
              case measure => first | (simp [intOf]; done) | (simp [intOf]; omega)
            | some x9 =>
              go_wp2_with (first | (go_at_call 24; refine HTK.out.mono ?_; rintro e w1 ⟨hb1, v, rfl, hv⟩) | (go_at_call 23; refine (line_toks M1 R M1 M2 codeOf st.ls lv st.xs st.size a l v wr.heap.size w1 (HL3.out.rd.below hb1) (HL3.out.env.grown hb1) (Nat.le_trans hz hb1.size) hll haa hv).mono ?_; rintro e w2 ⟨hf, hx⟩; rw [HLine.out] at hx; obtain ⟨rfl, lv2, hr2⟩ := hx))
              have hlb2 : w2.heap[LB]? = some (.cells (linesV t.data.toList) 9 (0, 0)) := by
                rw [hf.block LB (Nat.lt_of_lt_of_le (heap_lt Hlb.out) hb1.size) (by have := HN.out; omega) (by have := HN.out; omega) (own_ne_box (own_below HL3.out.rd.row hb1) (hb1.block _ (heap_lt Hlb.out) ▸ Hlb.out) (by decide)), hb1.block _ (heap_lt Hlb.out)]
                exact Hlb.out
              go_roundw
              case rel => exact ⟨k + 1, a + l.length + 1, ⟨ls', (st.xs ++ [x9]), (st.size + (1 + widthN (shapeN x9.c)))⟩, lv2, by go_num, by go_num, by omega, ⟨by rw [HRun.out, runL, HLine.out], by omega, HL3.out.step HM.out hz hb1 hf hr2 ⟨hgood.1, (goodX_snoc hgd.2 (hgood.2 _ rfl))⟩, hlb2, by have := hb1.size; have := hf.size; omega⟩⟩
              case measure => first | (simp [intOf]; done) | (simp [intOf]; omega)
        · obtain ⟨hrun, _, HL2, _, hz⟩ := HK.out
          have c2 := box_cell HL2.rd.cells 2
          simp at c2
          have HRun := Lib.hid hrun
          have HL3 := Lib.hid HL2
          clear hrun HL2
          rcases own_form HL3.out.rd.row with ⟨rfl, h0⟩ | ⟨g, cap, rfl, hg, hgl, hc, hm⟩
          · have hxs : st.xs = [] := List.length_eq_zero_iff.1 h0
            have HEN := Lib.hid (encode_any (.slice none 0 0) [] wr ⟨by simp, by simp, .inl ⟨rfl, rfl⟩⟩ HL3.out.env.tab)
            have Hxs := Lib.hid hxs
            clear hxs h0
            go_wp2_with fail
            go_loopw [11, 13, 14, 15, 58] (fun l _ _ _ i w3 => l = .slice none 0 0 ∧ i = .int .i64 0 ∧ Hid (w3 = wr)) (fun _ _ _ _ _ _ => 0)
            case atStart => exact ⟨rfl, rfl, rfl⟩
            case round =>
              obtain ⟨rfl, rfl, hw3⟩ := hrel
              obtain rfl := hw3.out
              obtain ⟨rfl, rfl, _⟩ := HN.out
              go_wp2_with (go_at_call 26; refine HEN.out.mono ?_; rintro e w4 hx; obtain ⟨hb4, n4, k4, rfl⟩ := enc_out hx; clear hx; obtain ⟨s5, e5, a5, p0, p1, p2, q0, q1, q2, HZ⟩ := Outs.cells (HL3.out.outs.below hb4 (Nat.lt_of_lt_of_le HM.out.2.2 hz)) rfl rfl)
              have hpf : parseF t.data.toList = .ok (encOut []) := by
                rw [parseF, HRun.out, List.drop_eq_nil_of_le (by rw [HNn.out]; omega), runL]
                show (match resolveL st.ls st.xs [] with | .error x => Except.error x | .ok is => .ok (encOut is)) = _
                rw [Hxs.out, resolveL]
              have hbw : Below w.heap.size w w4 := HL3.out.bel.trans (hb4.mono HL3.out.bel.size)
              obtain ⟨z0, z1, z2⟩ := out_sets ⟨(encOut []).toArray⟩ HZ.out.1 HZ.out.2.1 HZ.out.2.2
              refine door_ok _ w.heap.size ⟨(encOut []).toArray⟩ 0 0 _ _ rfl rfl rfl z0 z1 z2 ⟨?_, by rw [hpf]⟩
              exact (((hbw.setCell (Nat.le_refl _) _).setCell (Nat.le_refl _) _).setCell (by simp) _).setCell (by simp; omega) _
          · go_wp2_with fail
            go_loopw [11, 13, 14, 15, 58] (fun l _ _ _ i w3 => ∃ (k : Nat) (acc : List Ins), i = .int .i64 k ∧ k ≤ st.xs.length ∧ acc.length = k ∧
              Hid (resolveL st.ls st.xs [] = resolveL st.ls (st.xs.drop k) acc ∧ (∀ x ∈ acc, x.c < 41 ∧ x.in64) ∧ Below wr.heap.size wr w3 ∧ w3.ownsRow wr.heap.size 35 2 l k (cellsI acc))) (fun _ _ _ _ i _ => st.xs.length - (intOf i).toNat)
            case atStart => exact ⟨0, [], rfl, Nat.zero_le _, rfl, rfl, by simp, Below.refl _ _, World.ownsRow_nil _ _ _ _⟩
            case round =>
              obtain ⟨k, acc, rfl, hk3, hacc, H3⟩ := hrel
              by_cases hlt3 : k < st.xs.length
              · obtain ⟨hres, hgd, hb3, hown⟩ := H3.out
                obtain ⟨x, hx⟩ : ∃ x, st.xs[k]? = some x := ⟨_, List.getElem?_eq_getElem hlt3⟩
                rw [List.drop_eq_getElem_cons hlt3, show st.xs[k] = x from Option.some.inj ((List.getElem?_eq_getElem hlt3).symm.trans hx)] at hres
                have hxg := HL3.out.good.2 x (List.mem_of_getElem? hx)
                obtain ⟨a0, a1, a2, a3, a4⟩ := row5 (own_below HL3.out.rd.row hb3) hx
                obtain ⟨xc, xo, xp, xn, xa⟩ := x
                simp only at a0 a1 a2 a3 a4 hxg
                have hfew := HL3.out.rd.few
                have HRes := Lib.hid hres
                have HX := Lib.hid hx
                have HG := Lib.hid hgd
                have HB3 := Lib.hid hb3
                have HO3 := Lib.hid hown
                have hz3 := hb3.size
                clear hres hx hgd hb3 hown H3
                obtain ⟨wo3, rfl⟩ : ∃ wo3 : World, wo3 = wr := ⟨_, rfl⟩
                have HBX : Hid (Below wo3.heap.size wo3 (wo3.alloc (.cells #[.int .i64 xc, .int .i64 xo, .int .i64 xp, .string ⟨xn.toArray⟩, .int .i64 xa] 70))) := (Below.refl _ _).alloc (Nat.le_refl _) _
                have HX0 := Lib.hid (heap_new wo3 (.cells #[.int .i64 xc, .int .i64 xo, .int .i64 xp, .string ⟨xn.toArray⟩, .int .i64 xa] 70))
                go_upto_if 65 with fail
                generalize hW : wo3.alloc (.cells #[.int .i64 xc, .int .i64 xo, .int .i64 xp, .string ⟨xn.toArray⟩, .int .i64 xa] 70) = W9 at *
                have hrdW := HL3.out.rd.below (HB3.out.trans (HBX.out.mono hz3))
                have HRW := Lib.hid hrdW
                clear hrdW hW
                go_cut [13, 14, 15, 58] from 58 to 100 (fun v13 _ _ v58 wc => ∃ o9 : Int, v13 = .pointer (some ⟨wo3.heap.size, 0, none⟩) ∧ v58 = .int .i64 k ∧ Hid (resolve1 st.ls ⟨xc, xo, xp, xn, xa⟩ = .ok ⟨xc, o9⟩ ∧ wc.heap[wo3.heap.size]? = some (.cells #[.int .i64 xc, .int .i64 o9, .int .i64 xp, .string ⟨xn.toArray⟩, .int .i64 xa] 70 (0, 0)) ∧ Below wo3.heap.size wo3 wc))
                case first =>
                  have b0 := box_cell HX0.out 0
                  have b1' := box_cell HX0.out 1
                  have b2' := box_cell HX0.out 2
                  have b3 := box_cell HX0.out 3
                  have b4 := box_cell HX0.out 4
                  have br1 := box_cell HRW.out.cells 1
                  have bf1 := box_free HX0.out 1
                  simp only [List.getElem?_toArray, List.getElem?_cons_succ, List.getElem?_cons_zero] at b0 b1' b2' b3 b4 br1
                  by_cases hnm : xn = []
                  · subst hnm
                    go_wp2_with fail
                    go_meet
                    case rel => exact ⟨xo, rfl, rfl, rfl, HX0.out, HBX.out⟩
                  · have hne : xn.isEmpty = false := by simpa using hnm
                    have hne2 : (!xn.isEmpty) = true := by rw [hne]; rfl
                    have hz : ∀ W, (zeroValue 3).run Tryd.prog W = .ok (.int .i64 0) W := fun W => by kernel_rfl
                    have hlk0 := fun nq => MapIs.look (w := W9.drewN nq) strK (HRW.out.lmap.of_block strK (w' := W9.drewN nq) rfl) Tryd.underlying59 (hz _) ⟨xn.toArray⟩
                    rw [lookL_lab] at hlk0
                    clear hz
                    cases hlo : lookN st.ls xn with
                    | none =>
                      rw [hlo] at hlk0
                      have hlk : ∀ nq, (Instr.lookup 59 (.map (some M2)) (.string ⟨xn.toArray⟩) true).run Tryd.prog (W9.drewN nq) = .ok (.tuple #[.int .i64 0, .bool false]) (W9.drewN nq) := hlk0
                      have HLo := Lib.hid hlo
                      clear hlk0 hlo
                      go_upto_region 20 with fail
                      rotate_left
                      · rename_i h9; exact absurd (hne2.symm.trans h9) (by decide)
                      go_quiet (fail)
                      go_wp2_with (go_at_call 25; refine (fail_any _ _ _).mono ?_; rintro e w3 ⟨rfl, h3⟩; rw [h3]; clear h3 w3)
                      have hpf : parseF t.data.toList = .error (11, xa) := by
                        rw [parseF, HRun.out, List.drop_eq_nil_of_le (by rw [HNn.out]; omega), runL]
                        show (match resolveL st.ls st.xs [] with | .error x => Except.error x | .ok is => .ok (encOut is)) = _
                        rw [HRes.out, resolveL, resolve1, if_neg hnm, HLo.out]
                      have hbw : Below wr.heap.size wr W9 := HB3.out.trans (HBX.out.mono hz3)
                      have hdw : w.heap.size ≤ wr.heap.size := HL3.out.bel.size
                      obtain ⟨rfl, rfl, _⟩ := HN.out
                      refine door_fault w _ w.heap.size 11 xa _ _ ((HL3.out.outs.below hbw (Nat.lt_of_lt_of_le HM.out.2.2 hz)).drewN _) ((HL3.out.bel.trans (hbw.mono hdw)).drewN _) rfl rfl rfl fun w' hb' => ⟨hb', ?_⟩
                      rw [hpf]
                    | some nn =>
                      rw [hlo] at hlk0
                      have hlk : ∀ nq, (Instr.lookup 59 (.map (some M2)) (.string ⟨xn.toArray⟩) true).run Tryd.prog (W9.drewN nq) = .ok (.tuple #[.int .i64 nn, .bool true]) (W9.drewN nq) := hlk0
                      have hnn := lookN_le HL3.out.good.1 hlo
                      have HLo := Lib.hid hlo
                      clear hlk0 hlo
                      go_upto_region 20 with fail
                      rotate_left
                      · rename_i h9; exact absurd (hne2.symm.trans h9) (by decide)
                      go_quiet (fail)
                      obtain ⟨hx1, hx2, hx3⟩ := hxg
                      by_cases h26 : xc = 26
                      · subst h26
                        go_wp2_with fail
                        go_meet
                        case rel => exact ⟨nn, rfl, rfl, by rw [resolve1, if_neg hnm, HLo.out]; rfl, set_heap HX0.out 1 _, (HBX.out.drewN _).setCell (Nat.le_refl _) _⟩
                      · have hne26 : decide ((xc : Int) = 26) = false := by rw [decide_eq_false_iff_not]; omega
                        go_wp2_with fail
                        go_meet
                        case rel => exact ⟨(nn : Int) - ((xp : Int) + 3), rfl, rfl, by rw [resolve1, if_neg hnm, HLo.out]; simp [h26], (set_heap (w := W9.drewN _) HX0.out 1 _).trans (by rw [sub_wrap nn xp hnn hx3]; rfl), (HBX.out.drewN _).setCell (Nat.le_refl _) _⟩
                case rest =>
                  obtain ⟨o9, rfl, rfl, hr1, hx9, hbc⟩ := hcut
                  have d0 := box_cell hx9 0
                  have d1 := box_cell hx9 1
                  simp only [List.getElem?_toArray, List.getElem?_cons_succ, List.getElem?_cons_zero] at d0 d1
                  have HR1 := Lib.hid hr1
                  have HBC := Lib.hid hbc
                  have HOC := own_below HO3.out hbc
                  have hzc := hbc.size
                  have hacc2 : acc.length = k := hacc
                  have hk9 : k ≤ 512 := by omega
                  clear hr1 hbc hx9
                  go_wp2_with ((at_builtin; refine wpList_append_own _ rfl _ _ 25 rfl wr.heap.size 35 i0 _ 2 16 Tryd.underlying25 hi hz0 hz1 hz2 rfl (by decide) _ _ _ rfl (HOC.alloc _) ⟨wc.heap.size, 0, none⟩ 1 1 [.int .i64 xc, .int .i64 o9] rfl rfl ?c1 ?c2 ?c3 ?c4 ?c5 ?_))
                  case c1 => exact fun j u => new_cells _ _ _ _ (by simp) j u
                  case c2 => intro u hu; simp at hu; rcases hu with rfl | rfl <;> rfl
                  case c3 => unfold maxLen; omega
                  case c4 => omega
                  case c5 => simp; omega
                  intro v' w1 hO2 hg _
                  have hbw1 : Below wr.heap.size wr w1 := grown_below HO3.out ((HB3.out.trans (HBC.out.mono hz3)).alloc (by omega) _) (by simp; omega) hg
                  have HO2 := Lib.hid hO2
                  clear hO2 hg HOC
                  go_wp2
                  go_roundw
                  case rel =>
                    refine ⟨k + 1, acc ++ [⟨xc, o9⟩], by go_num, by omega, by simp; omega, ?_, ?_, hbw1, ?_⟩
                    · show resolveL _ _ _ = _
                      rw [HRes.out, resolveL, HR1.out]
                    · intro y hy
                      rcases List.mem_append.1 hy with hy | hy
                      · exact HG.out y hy
                      · simp at hy; subst hy; exact resolve1_good HL3.out.good.1 hxg HR1.out
                    · rw [cellsI_snoc]
                      exact HO2.out
                  case measure => first | (simp [intOf]; done) | (simp [intOf]; omega)
              · obtain ⟨hres, hgd, hb3, hown⟩ := H3.out
                rw [List.drop_eq_nil_of_le (by omega), resolveL] at hres
                obtain rfl := hacc
                have hops := ops_own hown (by have := HL3.out.rd.few; omega) hgd
                have HRes := Lib.hid hres
                have HB3 := Lib.hid hb3
                have HEN := Lib.hid (encode_any _ acc wr hops ((HL3.out.env.below hb3 (by have := HL3.out.env.big; exact this)).tab))
                clear hres hgd hb3 hown hops H3
                obtain ⟨wo3, rfl⟩ : ∃ wo3 : World, wo3 = wr := ⟨_, rfl⟩
                obtain ⟨rfl, rfl, _⟩ := HN.out
                go_wp2_with (go_at_call 26; refine HEN.out.mono ?_; rintro e w4 hx; obtain ⟨hb4, n4, k4, rfl⟩ := enc_out hx; clear hx; obtain ⟨s5, e5, a5, p0, p1, p2, q0, q1, q2, HZ⟩ := Outs.cells (HL3.out.outs.below (HB3.out.trans (hb4.mono HB3.out.size)) (Nat.lt_of_lt_of_le HM.out.2.2 hz)) rfl rfl)
                have hpf : parseF t.data.toList = .ok (encOut acc) := by
                  rw [parseF, HRun.out, List.drop_eq_nil_of_le (by rw [HNn.out]; omega), runL]
                  show (match resolveL st.ls st.xs [] with | .error x => Except.error x | .ok is => .ok (encOut is)) = _
                  rw [HRes.out]
                have hbw : Below w.heap.size w w4 := HL3.out.bel.trans ((HB3.out.trans (hb4.mono HB3.out.size)).mono HL3.out.bel.size)
                obtain ⟨z0, z1, z2⟩ := out_sets ⟨(encOut acc).toArray⟩ HZ.out.1 HZ.out.2.1 HZ.out.2.2
                refine door_ok _ w.heap.size ⟨(encOut acc).toArray⟩ 0 0 _ _ rfl rfl rfl z0 z1 z2 ⟨?_, by rw [hpf]⟩
                · exact (((hbw.setCell (Nat.le_refl _) _).setCell (Nat.le_refl _) _).setCell (by simp) _).setCell (by simp; omega) _
end Go.Proofs.YtbigllcononkbaaDoor
