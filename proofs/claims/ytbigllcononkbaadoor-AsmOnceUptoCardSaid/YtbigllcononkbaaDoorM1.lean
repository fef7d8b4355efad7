/- Maps with keys that are texts or ints, by lists: what a lookup finds, what a store makes. Over any program. -/
import Derived.WalkKit
import Derived.Lib.Hide
namespace Go.Proofs.YtbigllcononkbaaDoor
open Go Go.RowKit

/-- Keys of one kind. -/
structure KeyEnc (P : Program) (t : TypeId) (κ : Type) [DecidableEq κ] where
  enc : κ → Value
  kind : TypeDesc
  under : P.underlying t = some kind
  now : ∀ a b, Instr.sameNow kind (enc a) (enc b) = some (decide (a = b))
  same : ∀ a, Instr.sameBits 10000 (enc a) (enc a) = true
  chk : ∀ e a w, (Instr.checkKey e 10000 t (enc a)).run P w = .ok () w

section
variable {P : Program} {t : TypeId} {κ : Type} [DecidableEq κ] (K : KeyEnc P t κ)

/-- A map that reads as this list of keys and values. -/
def MapIs (w : World) (M : Nat) (l : List (κ × Value)) : Prop :=
  ∃ es clock, w.heap[M]? = some (.map es clock) ∧ es.toList.map (fun e => (e.key, e.val)) = l.map fun p => (K.enc p.1, p.2)
def lookL (l : List (κ × Value)) (k : κ) : Option Value := (l.find? fun p => decide (k = p.1)).map (·.2)
def putL : List (κ × Value) → κ → Value → List (κ × Value)
  | [], k, v => [(k, v)]
  | p :: l, k, v => if k = p.1 then (k, v) :: l else p :: putL l k v

theorem findNow_list (k : κ) : ∀ (es : List MapEntry) (l : List (κ × Value)) (i : Nat), es.map (fun e => (e.key, e.val)) = l.map (fun p => (K.enc p.1, p.2)) →
    (∃ j v, Instr.findNow K.kind (K.enc k) es i = some (some (i + j, v)) ∧ lookL l k = some v ∧ j < es.length ∧ l.map (·.1) = (l.map (·.1)).set j k ∧ putL l k = fun u => l.set j (k, u)) ∨
    (Instr.findNow K.kind (K.enc k) es i = some none ∧ lookL l k = none ∧ putL l k = fun u => l ++ [(k, u)])
  | [], [], i, _ => .inr ⟨rfl, rfl, rfl⟩
  | [], p :: l, i, h => by simp at h
  | e :: es, [], i, h => by simp at h
  | e :: es, p :: l, i, h => by
    simp only [List.map_cons, List.cons.injEq, Prod.mk.injEq] at h
    obtain ⟨⟨h1, h2⟩, h3⟩ := h
    by_cases hk : k = p.1
    · left
      refine ⟨0, e.val, ?_, ?_, by simp, by simp [hk], ?_⟩
      · simp only [Instr.findNow, h1, K.now, hk, decide_true, Nat.add_zero]
      · simp [lookL, hk, h2]
      · funext u; simp [putL, hk]
    · have hn : Instr.findNow K.kind (K.enc k) (e :: es) i = Instr.findNow K.kind (K.enc k) es (i + 1) := by
        simp only [Instr.findNow, h1, K.now, hk, decide_false]
      have hl : lookL (p :: l) k = lookL l k := by simp [lookL, hk]
      rcases findNow_list k es l (i + 1) h3 with ⟨j, v, r1, r2, r3, r4, r5⟩ | ⟨r1, r2, r3⟩
      · left
        refine ⟨j + 1, v, by rw [hn, r1, Nat.add_assoc, Nat.add_comm 1 j], by rw [hl, r2], by simp; omega, ?_, ?_⟩
        · simp only [List.map_cons, List.set_cons_succ]
          rw [← r4]
        · funext u
          simp only [putL, hk, if_false, List.set_cons_succ]
          rw [r5]
      · right
        refine ⟨by rw [hn, r1], by rw [hl, r2], ?_⟩
        funext u
        simp only [putL, hk, if_false, List.cons_append]
        rw [r3]
theorem run_findKey {es : List MapEntry} {r : Option (Nat × Value)} (k : κ) (w : World) (h : Instr.findNow K.kind (K.enc k) es 0 = some r) : (Instr.findKey t (K.enc k) es).run P w = .ok r w := by
  simp [Instr.findKey, run_underlying K.under, h]
variable {w : World} {M : Nat} {l : List (κ × Value)}
/-- v, ok := m[k]. -/
theorem MapIs.look {mt e : TypeId} (h : MapIs K w M l) (ht : P.underlying mt = some (.map t e)) {z : Value} (hz : (zeroValue e).run P w = .ok z w) (k : κ) :
    (Instr.lookup mt (.map (some M)) (K.enc k) true).run P w = .ok (match lookL l k with | some v => .tuple #[v, .bool true] | none => .tuple #[z, .bool false]) w := by
  obtain ⟨es, clock, hb, hl⟩ := h
  have hobj : (getObj M).run P w = .ok (.map es clock) w := by simp [getObj, Sem.run, hb]
  rcases findNow_list K k es.toList l 0 hl with ⟨j, v, r1, r2, _⟩ | ⟨r1, r2, _⟩
  · have hf := run_findKey K k w r1
    rw [r2]
    simp [Instr.lookup, run_underlying ht, hobj, K.chk, hf]
  · have hf := run_findKey K k w r1
    rw [r2]
    simp [Instr.lookup, run_underlying ht, hobj, K.chk, hf, hz]
/-- A block that is written over. -/
theorem grown_setObj (w : World) (M : Nat) (o : Obj) : w.grownBy { w with heap := w.heap.setIfInBounds M o } (some M) :=
  ⟨rfl, rfl, rfl, by simp, fun k _ hn => by
    simp only
    rw [Array.getElem?_setIfInBounds]
    split
    · rename_i h; exact absurd (by rw [h]) hn
    · rfl⟩
theorem map_modify (es : List MapEntry) (j : Nat) (f : MapEntry → MapEntry) (g : MapEntry → Value × Value) (y : Value × Value) (hf : ∀ e, es[j]? = some e → g (f e) = y) : (es.modify j f).map g = (es.map g).set j y := by
  induction es generalizing j with
  | nil => simp
  | cons e es ih =>
    cases j with
    | zero =>
      have := hf e rfl
      simp [List.modify_zero_cons, this]
    | succ j => simp [List.modify_succ_cons, ih j (fun e he => hf e (by simpa using he))]
/-- m[k] = v. -/
theorem MapIs.put {mt e : TypeId} (h : MapIs K w M l) (ht : P.underlying mt = some (.map t e)) (k : κ) (v : Value) :
    ∃ w', (Instr.mapUpdate mt (.map (some M)) (K.enc k) v).run P w = .ok () w' ∧ MapIs K w' M (putL l k v) ∧ w.grownBy w' (some M) := by
  obtain ⟨es, clock, hb, hl⟩ := h
  have hM : M < w.heap.size := (Array.getElem?_eq_some_iff.1 hb).1
  have hobj : (getObj M).run P w = .ok (.map es clock) w := by simp [getObj, Sem.run, hb]
  have hset : ∀ o, (setObj M o).run P w = .ok () { w with heap := w.heap.setIfInBounds M o } := fun o => by simp [setObj, Sem.run, hb]
  rcases findNow_list K k es.toList l 0 hl with ⟨j, u, r1, r2, r3, r4, r5⟩ | ⟨r1, r2, r3⟩
  · have hf := run_findKey K k w r1
    have hlen : es.toList.length = l.length := by have := congrArg List.length hl; simpa using this
    have hj : j < es.size := by simpa using r3
    have hjl : j < l.length := by omega
    have hlj : l[j].1 = k := by
      have := congrArg (fun x : List κ => x[j]?) r4
      simp [hjl] at this
      exact this
    have hkey : (es[j]).key = K.enc k := by
      have := congrArg (fun x : List (Value × Value) => x[j]?) hl
      simp [hj, hjl] at this
      rw [this.1, hlj]
    have hstay : (Instr.keyThatStays (((es[j]?).map (·.key)).getD (K.enc k)) (K.enc k)).run P w = .ok (K.enc k) w := by
      simp [Instr.keyThatStays, Array.getElem?_eq_getElem hj, hkey, K.same]
    refine ⟨_, ?_, ?_, grown_setObj w M (.map (es.modify j fun e => { e with key := K.enc k, val := v }) clock)⟩
    · simp only [Instr.mapUpdate, Sem.run_bind, run_underlying ht, Result.andThen, hobj, K.chk, hf, Nat.zero_add, hstay, hset]
    · refine ⟨es.modify j fun e => { e with key := K.enc k, val := v }, clock, by simp [hM], ?_⟩
      rw [Array.toList_modify, map_modify _ _ _ _ (K.enc k, v) (fun e _ => rfl), hl, r5]
      simp
  · have hf := run_findKey K k w r1
    refine ⟨_, ?_, ?_, grown_setObj w M (.map (es.push { key := K.enc k, val := v, born := clock }) (clock + 1))⟩
    · simp only [Instr.mapUpdate, Sem.run_bind, run_underlying ht, Result.andThen, hobj, K.chk, hf, hset]
    · refine ⟨es.push { key := K.enc k, val := v, born := clock }, clock + 1, by simp [hM], ?_⟩
      rw [r3]
      simp [hl]
theorem MapIs.lt (h : MapIs K w M l) : M < w.heap.size := by
  obtain ⟨es, clock, hb, _⟩ := h
  exact (Array.getElem?_eq_some_iff.1 hb).1
theorem MapIs.of_block {w' : World} (h : MapIs K w M l) (hb : w'.heap[M]? = w.heap[M]?) : MapIs K w' M l := by
  obtain ⟨es, clock, h1, h2⟩ := h
  exact ⟨es, clock, hb.trans h1, h2⟩
theorem MapIs.below {w' : World} (h : MapIs K w M l) (hb : Below w.heap.size w w') : MapIs K w' M l := h.of_block K (hb.block M h.lt)
theorem MapIs.made (w : World) : MapIs K (w.alloc (.map #[] 0)) w.heap.size [] := ⟨#[], 0, by show (w.heap.push _)[w.heap.size]? = _; simp, rfl⟩
/-- A map's block is no row of cells. -/
theorem MapIs.ne_row (h : MapIs K w M l) {X : Nat} {cs : Array Value} {tt : TypeId} {fr : Nat × Nat} (hX : w.heap[X]? = some (.cells cs tt fr)) : M ≠ X := by
  rintro rfl
  obtain ⟨es, clock, h1, _⟩ := h
  rw [hX] at h1; cases h1
theorem lookL_put (l : List (κ × Value)) (k k' : κ) (v : Value) : lookL (putL l k v) k' = if k' = k then some v else lookL l k' := by
  induction l with
  | nil =>
    by_cases h : k' = k <;> simp [putL, lookL, h]
  | cons p l ih =>
    simp only [putL]
    by_cases h : k = p.1
    · rw [if_pos h]
      by_cases h2 : k' = k
      · simp [lookL, h2]
      · have h3 : ¬ k' = p.1 := fun e => h2 (e.trans h.symm)
        simp [lookL, h2, h3]
    · rw [if_neg h]
      by_cases h3 : k' = p.1
      · have : ¬ k' = k := fun e => h (e.symm.trans h3)
        simp [lookL, h3]
        intro e; exact absurd e.symm h
      · simp only [lookL, List.find?_cons, h3, decide_false] at ih ⊢
        exact ih
end
/-- Texts as keys. -/
def strKeys (P : Program) (t : TypeId) (ht : P.underlying t = some .string) : KeyEnc P t ByteArray where
  enc s := .string s
  kind := .string
  under := ht
  now a b := by
    simp only [Instr.sameNow]
    congr 1
    rw [Bool.eq_iff_iff]
    obtain ⟨a⟩ := a
    obtain ⟨b⟩ := b
    show (a == b) = true ↔ _
    simp
  same a := by
    simp only [Instr.sameBits]
    obtain ⟨a⟩ := a
    show (a == a) = true
    simp
  chk e a w := by rw [show (10000 : Nat) = 9999 + 1 from rfl, Instr.checkKey]; simp [run_underlying ht]
/-- Ints as keys. -/
def intKeys (P : Program) (t : TypeId) (k : IntKind) (ht : P.underlying t = some (.int k)) : KeyEnc P t Int where
  enc n := .int k n
  kind := .int k
  under := ht
  now a b := by simp only [Instr.sameNow, if_true]; congr 1
  same a := by simp [Instr.sameBits]
  chk e a w := by rw [show (10000 : Nat) = 9999 + 1 from rfl, Instr.checkKey]; simp [run_underlying ht]
end Go.Proofs.YtbigllcononkbaaDoor
