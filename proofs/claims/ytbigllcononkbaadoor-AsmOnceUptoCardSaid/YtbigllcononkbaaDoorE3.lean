/- The walk of asm.Print. -/
import Derived.Test.YtbigllcononkbaaDoorE2
import Derived.Test.YtbigllcononkbaaDoorD3
namespace Go.Proofs.YtbigllcononkbaaDoor
open Go Go.RowKit

def inStarts : List Ins → Nat → Int → Bool
  | [], _, _ => false
  | x :: xs, a, q => decide (q = a) || inStarts xs (a + x.len) q
def begF (xs : List Ins) (n : Nat) (q : Int) : Bool := decide (q = n) || inStarts xs 0 q
def refB (beg : Int → Bool) (x : Ins) (a : Nat) : Bool := leadsB x.c && beg (tgt x a)
def marksF (beg : Int → Bool) : List Ins → Nat → Int → Bool
  | [], _, _ => false
  | x :: xs, a, q => (refB beg x a && decide (q = tgt x a)) || marksF beg xs (a + x.len) q
def nameOf (c : Nat) : List UInt8 := wordsL.getD c []
def tailT (beg : Int → Bool) (x : Ins) (a : Nat) : List UInt8 := if refB beg x a = true then [32, 76] ++ Lib.itoa (tgt x a) else if 1 < x.len then [32] ++ Lib.itoa x.o else []
def lineT (beg : Int → Bool) (x : Ins) (a : Nat) : List UInt8 := nameOf x.c ++ tailT beg x a ++ [10]
def outT (beg mk : Int → Bool) : List Ins → Nat → List UInt8
  | [], a => labelT mk a
  | x :: xs, a => labelT mk a ++ lineT beg x a ++ outT beg mk xs (a + x.len)
/-- asm.Print. -/
def printF (s : List UInt8) : Except Int (List UInt8) :=
  if 512 < s.length then .error 2 else match decF s with
  | none => .error 10
  | some xs => .ok (outT (begF xs s.length) (marksF (begF xs s.length) xs 0) xs 0)
theorem rowI {w : World} {B g cap n : Nat} {xs : List Ins} (h : w.ownsRow B 35 2 (.slice (some ⟨g, 0, none⟩) n cap) n (cellsI xs)) {k : Nat} {x : Ins} (hx : xs[k]? = some x) :
    w.cell? ⟨g, k * 2, none⟩ = some (.int .i64 x.c) ∧ w.cell? ⟨g, k * 2 + 1, none⟩ = some (.int .i64 x.o) := by
  have hf := flat2 (fun x : Ins => Value.int .i64 x.c) (fun x => Value.int .i64 x.o) xs k
  rw [hx] at hf
  have key : ∀ j u, (cellsI xs)[j]? = some u → w.cell? ⟨g, j, none⟩ = some u := fun j u hu => by
    have hj : j < (cellsI xs).length := by
      rcases Nat.lt_or_ge j (cellsI xs).length with h | h
      · exact h
      · rw [List.getElem?_eq_none h] at hu; cases hu
    rw [own_cell h j hj]
    rw [List.getElem?_eq_getElem hj] at hu
    exact hu
  exact ⟨key _ _ hf.1, key _ _ hf.2⟩
/-- The memory of Print. -/
structure PW (w wr : World) (xs : List Ins) (v : Value) (G X8 Mb : Nat) (p : Int → Bool) : Prop where
  row : wr.ownsRow w.heap.size 35 2 v xs.length (cellsI xs)
  names : wr.heap[G]? = some (.cells wordsV 9 (0, 0))
  x8 : wr.heap[X8]? = some (.cells #[.map (some Mb)] 33 (0, 0))
  set : SetIs wr Mb p
  bel : Below w.heap.size w wr
  env : Env wr
  hMb : w.heap.size ≤ Mb
theorem set_ne_box {w : World} {M : Nat} {p : Int → Bool} (h : SetIs w M p) {X : Nat} {cs : Array Value} {tt : TypeId} {fr : Nat × Nat} (hX : w.heap[X]? = some (.cells cs tt fr)) : M ≠ X := by
  obtain ⟨l, h1, _⟩ := h
  exact h1.ne_row intK hX
theorem PW.below {w wr w' : World} {xs : List Ins} {v : Value} {G X8 Mb : Nat} {p : Int → Bool} (h : PW w wr xs v G X8 Mb p) (hb : Below wr.heap.size wr w') : PW w w' xs v G X8 Mb p where
  row := own_below h.row hb
  names := by rw [hb.block _ (heap_lt h.names)]; exact h.names
  x8 := by rw [hb.block _ (heap_lt h.x8)]; exact h.x8
  set := h.set.of_block (hb.block _ h.set.lt)
  bel := h.bel.trans (hb.mono h.bel.size)
  env := h.env.grown hb
  hMb := h.hMb
/-- Another map, or this one, takes a key in. -/
theorem PW.put {w wr w' : World} {xs : List Ins} {v : Value} {G X8 Mb M : Nat} {p p' : Int → Bool} (h : PW w wr xs v G X8 Mb p) (hM : w.heap.size ≤ M) (hg : wr.grownBy w' (some M)) (hm : ∃ q, SetIs wr M q) (hp : SetIs w' Mb p') (hE : 11 < w.heap.size) : PW w w' xs v G X8 Mb p' where
  row := by
    obtain ⟨q, hq⟩ := hm
    obtain ⟨r1, r2⟩ := h.row
    refine ⟨r1, ?_⟩
    rcases r2 with r2 | ⟨gg, cap, cur, rfl, r3, r4, r5⟩
    · exact .inl r2
    · exact .inr ⟨gg, cap, cur, rfl, r3, by rw [hg.block gg (heap_lt r4) (by simpa using fun e => set_ne_box hq r4 e.symm)]; exact r4, r5⟩
  names := by
    obtain ⟨q, hq⟩ := hm
    rw [hg.block _ (heap_lt h.names) (by simpa using fun e => set_ne_box hq h.names e.symm)]; exact h.names
  x8 := by
    obtain ⟨q, hq⟩ := hm
    rw [hg.block _ (heap_lt h.x8) (by simpa using fun e => set_ne_box hq h.x8 e.symm)]; exact h.x8
  set := hp
  bel := h.bel.grown hg h.bel.size fun k hk => by cases hk; exact hM
  env := h.env.of_blocks hg.size fun k hk => hg.block k (by have := h.env.big; omega) (by simp; omega)
  hMb := h.hMb
theorem set_made (w : World) : SetIs (w.alloc (.map #[] 0)) w.heap.size (fun _ => false) := ⟨[], MapIs.made intK w, fun _ => rfl⟩
theorem size_alloc (w : World) (o : Obj) : (w.alloc o).heap.size = w.heap.size + 1 := by show (w.heap.push o).size = _; simp
/-- Print's memory as it stands ahead of its first loop. -/
theorem print_start {w w1 : World} {xs : List Ins} {v : Value} (n : Nat) (hE : Env w) (hb : Below w.heap.size w w1) (hv : w1.ownsRow w.heap.size 35 2 v xs.length (cellsI xs)) :
    ∃ w2, (Instr.mapUpdate 33 (.map (some (w1.heap.size + 1))) (.int .i64 n) (.bool true)).run Tryd.prog ((w1.alloc (.cells wordsV 9)).alloc (.map #[] 0)) = .ok () w2 ∧
      Hid (PW w (w2.alloc (.cells #[.map (some (w1.heap.size + 1))] 33)) xs v w1.heap.size w2.heap.size (w1.heap.size + 1) (fun q => decide (q = n)) ∧ w1.heap.size + 2 ≤ w2.heap.size) := by
  have hm := set_made (w1.alloc (.cells wordsV 9))
  rw [size_alloc] at hm
  obtain ⟨w2, h1, h2, h3⟩ := hm.put n
  have hb1 := hb.size
  have hb2 : Below w1.heap.size w1 ((w1.alloc (.cells wordsV 9)).alloc (.map #[] 0)) := ((Below.refl _ _).alloc (Nat.le_refl _) _).alloc (by simp) _
  have hb3 : Below w1.heap.size w1 w2 := hb2.grown h3 (by simp; omega) fun k hk => by cases hk; omega
  have hz : w1.heap.size + 2 ≤ w2.heap.size := by have := h3.size; rw [size_alloc, size_alloc] at this; omega
  have hb4 : Below w1.heap.size w1 (w2.alloc (.cells #[.map (some (w1.heap.size + 1))] 33)) := hb3.alloc (by omega) _
  refine ⟨w2, h1, ⟨own_below hv hb4, ?_, heap_new _ _, ?_, (hb.trans (hb4.mono hb1)), hE.grown (hb.trans (hb4.mono hb1)), by omega⟩, hz⟩
  · have := heap_old (.map #[] 0) (heap_new w1 (.cells wordsV 9))
    refine heap_old _ ?_
    rw [h3.block _ (heap_lt this) (by simp)]
    exact this
  · refine SetIs.of_block (w := w2) ?_ (by rw [Below.heap_alloc _ _ _ h2.lt])
    obtain ⟨l, a1, a2⟩ := h2
    exact ⟨l, a1, fun k => by rw [a2]; simp⟩
theorem own_opt {w : World} {B e size n : Nat} {v : Value} {xs : List Value} (h : w.ownsRow B e size v n xs) : ∃ A cap, v = .slice A n cap ∧ (n = 0 ∨ ∃ g, A = some ⟨g, 0, none⟩) := by
  rcases own_form h with ⟨rfl, rfl⟩ | ⟨g, cap, rfl, _⟩
  · exact ⟨none, 0, rfl, .inl rfl⟩
  · exact ⟨_, cap, rfl, .inr ⟨g, rfl⟩⟩
theorem length_enc : ∀ xs : List Ins, xs.length ≤ (encAll xs).length
  | [] => Nat.le_refl _
  | x :: xs => by
    rw [show encAll (x :: xs) = x.enc ++ encAll xs from rfl, List.length_append, enc_length]
    have := length_enc xs
    have := len_pos x
    simp; omega
/-- Print's memory with the marked places. -/
structure PW2 (w wr : World) (xs : List Ins) (v : Value) (G X8 Mb : Nat) (p : Int → Bool) (X13 M2 : Nat) (p2 : Int → Bool) : Prop where
  base : PW w wr xs v G X8 Mb p
  x13 : wr.heap[X13]? = some (.cells #[.map (some M2)] 33 (0, 0))
  set2 : SetIs wr M2 p2
  ne : Mb ≠ M2
  hM2 : w.heap.size ≤ M2
theorem PW2.below {w wr w' : World} {xs : List Ins} {v : Value} {G X8 Mb X13 M2 : Nat} {p p2 : Int → Bool} (h : PW2 w wr xs v G X8 Mb p X13 M2 p2) (hb : Below wr.heap.size wr w') : PW2 w w' xs v G X8 Mb p X13 M2 p2 where
  base := h.base.below hb
  x13 := by rw [hb.block _ (heap_lt h.x13)]; exact h.x13
  set2 := h.set2.of_block (hb.block _ h.set2.lt)
  ne := h.ne
  hM2 := h.hM2
theorem PW2.put {w wr w' : World} {xs : List Ins} {v : Value} {G X8 Mb X13 M2 : Nat} {p p2 p' : Int → Bool} (h : PW2 w wr xs v G X8 Mb p X13 M2 p2) (hg : wr.grownBy w' (some M2)) (hp : SetIs w' M2 p') (hE : 11 < w.heap.size) : PW2 w w' xs v G X8 Mb p X13 M2 p' where
  base := h.base.put h.hM2 hg ⟨_, h.set2⟩ (h.base.set.of_block (hg.block _ h.base.set.lt (by simpa using h.ne))) hE
  x13 := by rw [hg.block _ (heap_lt h.x13) (by simpa using fun e => set_ne_box h.set2 h.x13 e.symm)]; exact h.x13
  set2 := hp
  ne := h.ne
  hM2 := h.hM2
theorem PW2.start {w wr : World} {xs : List Ins} {v : Value} {G X8 Mb : Nat} {p : Int → Bool} (h : PW w wr xs v G X8 Mb p) :
    PW2 w ((wr.alloc (.map #[] 0)).alloc (.cells #[.map (some wr.heap.size)] 33)) xs v G X8 Mb p (wr.heap.size + 1) wr.heap.size (fun _ => false) where
  base := h.below (((Below.refl _ _).alloc (Nat.le_refl _) _).alloc (by simp) _)
  x13 := by
    have := heap_new (wr.alloc (.map #[] 0)) (.cells #[.map (some wr.heap.size)] 33)
    rw [size_alloc] at this
    exact this
  set2 := (set_made wr).of_block (by rw [Below.heap_alloc _ _ _ (by simp)])
  ne := by have := h.set.lt; omega
  hM2 := h.bel.size
theorem name_len : ∀ c, c < 41 → (nameOf c).length ≤ 6 := by unfold nameOf; decide +kernel
theorem names_cell {w : World} {G : Nat} (h : w.heap[G]? = some (.cells wordsV 9 (0, 0))) (c : Nat) (hc : c < 41) : w.cell? ⟨G, c, none⟩ = some (.string ⟨(nameOf c).toArray⟩) := by
  rw [box_cell h]
  have h2 : c < wordsL.length := by rw [words_length]; exact hc
  simp [wordsV, nameOf, h2]
theorem tgt_in64 (x : Ins) (a : Nat) (h : x.in64) : -9223372036854775808 ≤ tgt x a ∧ tgt x a ≤ 9223372036854775807 := by
  unfold tgt
  split
  · exact h
  · unfold wrap64; omega
theorem labelT_len (p : Int → Bool) (a : Nat) (ha : a ≤ 1048576) : (labelT p a).length ≤ 24 := by
  have := Lib.itoa_length_le a (by omega) (by omega)
  unfold labelT
  split
  · simp; omega
  · simp
theorem tailT_len (beg : Int → Bool) (x : Ins) (a : Nat) (h : x.in64) : (tailT beg x a).length ≤ 23 := by
  have h1 := tgt_in64 x a h
  have := Lib.itoa_length_le (tgt x a) h1.1 h1.2
  have := Lib.itoa_length_le x.o h.1 h.2
  unfold tailT
  split
  · simp; omega
  · split
    · simp; omega
    · simp
def PrintPost (w : World) (s : List UInt8) (e : Ending) (w' : World) : Prop :=
  Below w.heap.size w w' ∧
  match printF s with
  | .error n => e = .returned (.tuple #[.string ⟨#[]⟩, .int .i64 n])
  | .ok t => e = .returned (.tuple #[.string ⟨t.toArray⟩, .int .i64 0])
set_option maxRecDepth 100000 in
set_option maxHeartbeats 3200000 in
theorem print_err (s : ByteArray) (w : World) (hE : Env w) (hs : s.size ≤ 1048576) (n : Int) (hn : n ≠ 0) (hp : printF s.data.toList = .error n) :
    Calls Tryd.prog 5 #[.string s] w (PrintPost w s.data.toList) := by
  have HD : Hid (Calls Tryd.prog 9 #[.string s] w fun e w' => Below w.heap.size w w' ∧ ∃ k : Int, e = .returned (.tuple #[.slice none 0 0, .int .i64 n, .int .i64 k])) := by
    refine (decode_any s w (by omega) hE.tab).mono ?_
    rintro e w' ⟨hb, hx⟩
    refine ⟨hb, ?_⟩
    unfold printF at hp
    by_cases h5 : 512 < s.data.toList.length
    · rw [if_pos h5] at hx hp
      cases hp
      exact ⟨0, hx⟩
    · rw [if_neg h5] at hx hp
      cases hd : decF s.data.toList with
      | none => rw [hd] at hx hp; cases hp; exact hx
      | some xs => rw [hd] at hp; cases hp
  have HP := Lib.hid hp
  clear hp
  go_enter Tryd.func5, Tryd.ntmps5
  have hne : (n != 0) = true := by simpa using hn
  go_wp2_with (go_at_call 9; refine HD.out.mono ?_; rintro e w1 ⟨hb1, k, rfl⟩)
  go_ret2
  exact ⟨hb1, by rw [HP.out]; rfl⟩
set_option maxRecDepth 100000 in
set_option maxHeartbeats 3200000 in
theorem print_some (s : ByteArray) (w : World) (hE : Env w) (h5 : ¬ 512 < s.data.toList.length) (xs : List Ins) (hd : decF s.data.toList = some xs) :
    Calls Tryd.prog 5 #[.string s] w (PrintPost w s.data.toList) := by
  have hsz : s.data.toList.length = s.size := Array.length_toList
  have HD : Hid (Calls Tryd.prog 9 #[.string s] w fun e w' => Below w.heap.size w w' ∧ ∃ v, e = .returned (.tuple #[v, .int .i64 0, .int .i64 0]) ∧ w'.ownsRow w.heap.size 35 2 v xs.length (cellsI xs)) := by
    refine (decode_any s w (by omega) hE.tab).mono ?_
    rintro e w' ⟨hb, hx⟩
    refine ⟨hb, ?_⟩
    rw [if_neg h5, hd] at hx
    exact hx
  have hmf : ∀ (fn : Fn) (first cap : Array Value) (w : World), (Instr.makeFunc fn first cap).run Tryd.prog w = .ok (.func fn first cap) w := fun _ _ _ _ => rfl
  have hmm := @run_makeMap Tryd.prog
  have HE := Lib.hid hE
  have HDd := Lib.hid hd
  clear hE hd
  go_enter Tryd.func5, Tryd.ntmps5
  go_wp2_with (first | (go_at_call 9; refine HD.out.mono ?_; rintro e w1 ⟨hb1, v, rfl, hv⟩; obtain ⟨A, cap, rfl, hA⟩ := own_opt hv; obtain ⟨w2, hput, HS⟩ := print_start s.size HE.out hb1 hv; have hE1 := Lib.hid (HE.out.grown hb1); clear hb1) | (go_at_call 10; refine (fields_words _ hE1.out).mono ?_; rintro e w' ⟨rfl, rfl⟩))
  clear hput hv hE1
  obtain ⟨HS, hz2⟩ := HS.out
  generalize hW : w2.alloc (.cells #[.map (some (w1.heap.size + 1))] 33) = W0 at *
  clear hW
  generalize hX8 : w2.heap.size = X8 at *
  clear hX8
  generalize hM : w1.heap.size + 1 = M at *
  generalize hG : w1.heap.size = G at *
  clear hM hG hz2
  have HP0 := Lib.hid HS
  clear HS
  obtain ⟨hxs, hok⟩ := decF_enc _ _ HDd.out
  have hlen : (encAll xs).length = s.size := by rw [← hxs]; exact hsz
  have HOk := Lib.hid hok
  have HLen := Lib.hid hlen
  clear hxs hok hlen
  have hE11 := HE.out.big
  have hs5 : s.size ≤ 512 := by omega
  have hxl : xs.length ≤ 512 := by have := length_enc xs; rw [HLen.out] at this; omega
  go_loopw [9, 11, 40] (fun at' _ i wr => ∃ (k a : Nat) (p : Int → Bool), i = .int .i64 k ∧ at' = .int .i64 a ∧ k ≤ xs.length ∧ a + (encAll (xs.drop k)).length = s.size ∧
    Hid ((∀ q, begF xs s.size q = (p q || inStarts (xs.drop k) a q)) ∧ PW w wr xs (.slice A xs.length cap) G X8 M p)) (fun _ _ i _ => xs.length - (intOf i).toNat)
  case atStart => exact ⟨0, 0, _, rfl, rfl, Nat.zero_le _, by rw [List.drop_zero, HLen.out]; omega, fun q => rfl, HP0.out⟩
  case round =>
    obtain ⟨k, a, p, rfl, rfl, hk, hsum, HK⟩ := hrel
    obtain ⟨hbeg, HPW⟩ := HK.out
    by_cases hlt : k < xs.length
    · obtain ⟨x, hx⟩ : ∃ x, xs[k]? = some x := ⟨_, List.getElem?_eq_getElem hlt⟩
      obtain ⟨g, rfl⟩ : ∃ g, A = some ⟨g, 0, none⟩ := hA.resolve_left (by omega)
      rw [List.drop_eq_getElem_cons hlt, show xs[k] = x from Option.some.inj ((List.getElem?_eq_getElem hlt).symm.trans hx)] at hbeg hsum
      obtain ⟨hxo, hx64⟩ := HOk.out x (List.mem_of_getElem? hx)
      obtain ⟨a0, a1⟩ := rowI HPW.row hx
      have hel : (encAll (x :: xs.drop (k + 1))).length = x.len + (encAll (xs.drop (k + 1))).length := by rw [show encAll (x :: xs.drop (k + 1)) = x.enc ++ encAll (xs.drop (k + 1)) from rfl, List.length_append, enc_length]
      rw [hel] at hsum
      obtain ⟨c, o⟩ := x
      have hc41 : c < 41 := hxo.1
      rw [show Ins.len ⟨c, o⟩ = 1 + widthN (shapeN c) from rfl] at hsum
      have HBeg := Lib.hid hbeg
      have HW1 := Lib.hid HPW
      have HX := Lib.hid hx
      have hbox : Hid (Below wr.heap.size wr (wr.alloc (.cells #[.int .i64 c, .int .i64 o] 35))) := (Below.refl _ _).alloc (Nat.le_refl _) _
      have hnew := Lib.hid (heap_new wr (.cells #[.int .i64 c, .int .i64 o] 35))
      clear hbeg HPW hx HK hel hxo
      obtain ⟨wo, rfl⟩ : ∃ wo : World, wo = wr := ⟨_, rfl⟩
      go_upto_region 10 with fail
      generalize hW : wo.alloc (.cells #[.int .i64 c, .int .i64 o] 35) = W9 at *
      clear hW
      have HW2 := Lib.hid (HW1.out.below hbox.out)
      obtain ⟨w5, hput, hset, hg⟩ := HW2.out.set.put a
      have x0 := box_cell HW2.out.x8 0
      have hn5 : w5.heap[wo.heap.size]? = some (.cells #[.int .i64 c, .int .i64 o] 35 (0, 0)) := by
        rw [hg.block _ (heap_lt hnew.out) (by simpa using (set_ne_box HW2.out.set hnew.out).symm)]
        exact hnew.out
      have y0 := box_cell hn5 0
      simp only [List.getElem?_toArray, List.getElem?_cons_succ, List.getElem?_cons_zero] at x0 y0
      have HW5 := Lib.hid (HW2.out.put HW2.out.hMb hg ⟨_, HW2.out.set⟩ hset hE11)
      clear hset hg hn5
      go_wp2_with (go_at_call 11; refine (bytes_any _ hc41 _ HW5.out.env.tab).mono ?_; rintro e w6 ⟨rfl, hb6⟩)
      go_roundw
      case rel =>
        refine ⟨k + 1, a + (1 + widthN (shapeN c)), _, by go_num, by go_num, by omega, ?_, fun q => ?_, HW5.out.below hb6⟩
        · omega
        · rw [HBeg.out q, inStarts, ← Bool.or_assoc]; rfl
      case measure => first | (simp [intOf]; done) | (simp [intOf]; omega)
    · have hkn : k = xs.length := by omega
      subst hkn
      rw [List.drop_eq_nil_of_le (Nat.le_refl _)] at hbeg hsum
      obtain rfl : begF xs s.size = p := funext fun q => by rw [hbeg q, inStarts, Bool.or_false]
      have HB1 := Lib.hid (PW2.start HPW)
      clear hbeg HPW HK hk hlt hsum
      obtain ⟨wo, rfl⟩ : ∃ wo : World, wo = wr := ⟨_, rfl⟩
      go_upto_region 16 with fail
      generalize hW : (wo.alloc (.map #[] 0)).alloc (.cells #[.map (some wo.heap.size)] 33) = W9 at *
      clear hW
      generalize hX13 : wo.heap.size + 1 = X13 at *
      clear hX13
      generalize hM2 : wo.heap.size = M2 at *
      clear hM2
      go_wp2
      go_loopw [9, 15, 16, 17, 56] (fun at' _ _ _ i wr => ∃ (k a : Nat) (p : Int → Bool), i = .int .i64 k ∧ at' = .int .i64 a ∧ k ≤ xs.length ∧ a + (encAll (xs.drop k)).length = s.size ∧
        Hid ((∀ q, marksF (begF xs s.size) xs 0 q = (p q || marksF (begF xs s.size) (xs.drop k) a q)) ∧ PW2 w wr xs (.slice A xs.length cap) G X8 M (begF xs s.size) X13 M2 p)) (fun _ _ _ _ i _ => xs.length - (intOf i).toNat)
      case atStart => exact ⟨0, 0, _, rfl, rfl, Nat.zero_le _, by rw [List.drop_zero, HLen.out]; omega, fun q => by rw [List.drop_zero, Bool.false_or], HB1.out⟩
      case round =>
        obtain ⟨k, a, p, rfl, rfl, hk, hsum, HK⟩ := hrel
        obtain ⟨hbeg, HPW⟩ := HK.out
        by_cases hlt : k < xs.length
        · obtain ⟨x, hx⟩ : ∃ x, xs[k]? = some x := ⟨_, List.getElem?_eq_getElem hlt⟩
          obtain ⟨g, rfl⟩ : ∃ g, A = some ⟨g, 0, none⟩ := hA.resolve_left (by omega)
          rw [List.drop_eq_getElem_cons hlt, show xs[k] = x from Option.some.inj ((List.getElem?_eq_getElem hlt).symm.trans hx)] at hbeg hsum
          obtain ⟨hxo, hx64⟩ := HOk.out x (List.mem_of_getElem? hx)
          obtain ⟨a0, a1⟩ := rowI HPW.base.row hx
          have hel : (encAll (x :: xs.drop (k + 1))).length = x.len + (encAll (xs.drop (k + 1))).length := by rw [show encAll (x :: xs.drop (k + 1)) = x.enc ++ encAll (xs.drop (k + 1)) from rfl, List.length_append, enc_length]
          rw [hel] at hsum
          obtain ⟨c, o⟩ := x
          have hc41 : c < 41 := hxo.1
          rw [show Ins.len ⟨c, o⟩ = 1 + widthN (shapeN c) from rfl] at hsum
          have HBeg := Lib.hid hbeg
          have HW1 := Lib.hid HPW
          have HX := Lib.hid hx
          have hbox : Hid (Below wr.heap.size wr (wr.alloc (.cells #[.int .i64 c, .int .i64 o] 35))) := (Below.refl _ _).alloc (Nat.le_refl _) _
          have hnew := Lib.hid (heap_new wr (.cells #[.int .i64 c, .int .i64 o] 35))
          clear hbeg HPW hx HK hel hxo
          obtain ⟨wo, rfl⟩ : ∃ wo : World, wo = wr := ⟨_, rfl⟩
          go_upto_region 19 with fail
          generalize hW : wo.alloc (.cells #[.int .i64 c, .int .i64 o] 35) = W9 at *
          clear hW
          have HW2 := Lib.hid (HW1.out.below hbox.out)
          have y0 := box_cell hnew.out 0
          have y1 := box_cell hnew.out 1
          simp only [List.getElem?_toArray, List.getElem?_cons_succ, List.getElem?_cons_zero] at y0 y1
          have HT := Lib.hid (to_any ⟨c, o⟩ a X8 M (begF xs s.size) W9 hc41 (by omega) HW2.out.base.x8 HW2.out.base.set)
          cases hr : refB (begF xs s.size) ⟨c, o⟩ a with
          | false =>
            have HR := Lib.hid hr
            have HRR : (leadsB c && begF xs s.size (tgt ⟨c, o⟩ a)) = false := hr
            clear hr
            go_wp2_with (first | (go_at_call 12; refine HT.out.mono ?_; rintro e w6 ⟨hb6, rfl⟩; rw [HRR]; clear HRR; have n6 : w6.heap[wo.heap.size]? = some (.cells #[.int .i64 c, .int .i64 o] 35 (0, 0)) := (by rw [hb6.block _ (heap_lt hnew.out)]; exact hnew.out); have z0 := box_cell n6 0; simp only [List.getElem?_toArray, List.getElem?_cons_succ, List.getElem?_cons_zero] at z0; have HW6 := Lib.hid (HW2.out.below hb6)) | (go_at_call 11; refine (bytes_any _ hc41 _ HW6.out.base.env.tab).mono ?_; rintro e w8 ⟨rfl, hb8⟩))
            go_roundw
            case rel =>
              refine ⟨k + 1, a + (1 + widthN (shapeN c)), _, by go_num, by go_num, by omega, ?_, fun q => ?_, HW6.out.below hb8⟩
              · omega
              · rw [HBeg.out q, marksF, HR.out, Bool.false_and, Bool.false_or]; rfl
            case measure => first | (simp [intOf]; done) | (simp [intOf]; omega)
          | true =>
            have HR := Lib.hid hr
            have HRR : (leadsB c && begF xs s.size (tgt ⟨c, o⟩ a)) = true := hr
            clear hr
            generalize hq9 : tgt ⟨c, o⟩ a = q9 at HT HRR
            have HQ := Lib.hid hq9
            clear hq9
            go_wp2_with (first | (go_at_call 12; refine HT.out.mono ?_; rintro e w6 ⟨hb6, rfl⟩; rw [HRR]; clear HRR; have n6 : w6.heap[wo.heap.size]? = some (.cells #[.int .i64 c, .int .i64 o] 35 (0, 0)) := (by rw [hb6.block _ (heap_lt hnew.out)]; exact hnew.out); have z0 := box_cell n6 0; simp only [List.getElem?_toArray, List.getElem?_cons_succ, List.getElem?_cons_zero] at z0; have HW6 := Lib.hid (HW2.out.below hb6); have x13 := box_cell HW6.out.x13 0; simp only [List.getElem?_toArray, List.getElem?_cons_zero] at x13; obtain ⟨w7, hput, hset, hg⟩ := HW6.out.set2.put q9; have n7 : w7.heap[wo.heap.size]? = some (.cells #[.int .i64 c, .int .i64 o] 35 (0, 0)) := (by rw [hg.block _ (heap_lt n6) (by simpa using (set_ne_box HW6.out.set2 n6).symm)]; exact n6); have z7 := box_cell n7 0; simp only [List.getElem?_toArray, List.getElem?_cons_zero] at z7; have HW7 := Lib.hid (HW6.out.put hg hset hE11); clear hset hg n7) | (go_at_call 11; refine (bytes_any _ hc41 _ HW7.out.base.env.tab).mono ?_; rintro e w8 ⟨rfl, hb8⟩))
            go_roundw
            case rel =>
              refine ⟨k + 1, a + (1 + widthN (shapeN c)), _, by go_num, by go_num, by omega, ?_, fun q => ?_, HW7.out.below hb8⟩
              · omega
              · rw [HBeg.out q, marksF, HR.out, Bool.true_and, HQ.out, ← Bool.or_assoc]; rfl
            case measure => first | (simp [intOf]; done) | (simp [intOf]; omega)
        · have hkn : k = xs.length := by omega
          subst hkn
          rw [List.drop_eq_nil_of_le (Nat.le_refl _)] at hbeg hsum
          obtain rfl : marksF (begF xs s.size) xs 0 = p := funext fun q => by rw [hbeg q, marksF, Bool.or_false]
          have HQ := Lib.hid HPW
          clear hbeg HPW HK hk hlt hsum HB1
          obtain ⟨wq, rfl⟩ : ∃ wq : World, wq = wr := ⟨_, rfl⟩
          generalize hbeg : begF xs s.size = beg at *
          generalize hmk : marksF beg xs 0 = mk at *
          have HBM : Hid (begF xs s.size = beg ∧ marksF beg xs 0 = mk) := ⟨hbeg, hmk⟩
          clear hbeg hmk
          have HF : Hid (IsB wq.heap.size wq.heap.size (Lib.byteCells []) (wq.alloc (.cells #[.pointer none, .slice none 0 0] 43)) ∧ Below wq.heap.size wq (wq.alloc (.cells #[.pointer none, .slice none 0 0] 43))) := ⟨Lib.fresh_isBuilder _ _ _, (Below.refl _ _).alloc (Nat.le_refl _) _⟩
          go_upto_region 27 with fail
          generalize hW : wq.alloc (.cells #[.pointer none, .slice none 0 0] 43) = W9 at *
          clear hW
          generalize hb : wq.heap.size = b at *
          have Hb := Lib.hid hb
          clear hb
          go_wp2
          go_loopw [9, 21, 22, 23, 79] (fun at' _ _ _ i wr => ∃ (k a : Nat) (l : List UInt8), i = .int .i64 k ∧ at' = .int .i64 a ∧ k ≤ xs.length ∧ a + (encAll (xs.drop k)).length = s.size ∧ l.length ≤ 64 * k ∧
            Hid (outT beg mk xs 0 = l ++ outT beg mk (xs.drop k) a ∧ IsB b b (Lib.byteCells l) wr ∧ Below b wq wr)) (fun _ _ _ _ i _ => xs.length - (intOf i).toNat)
          case atStart => exact ⟨0, 0, [], rfl, rfl, Nat.zero_le _, by rw [List.drop_zero, HLen.out]; omega, by simp, by rw [List.drop_zero]; rfl, HF.out.1, HF.out.2⟩
          case round =>
            obtain ⟨k, a, l, rfl, rfl, hk, hsum, hll, HK⟩ := hrel
            obtain ⟨hout, hIB, hbq⟩ := HK.out
            have hbq' : Below wq.heap.size wq wr := Hb.out.symm ▸ hbq
            have HPW := Lib.hid (HQ.out.below hbq')
            clear hbq'
            have hbz : b ≤ wr.heap.size := by have := hbq.size; have := Hb.out; omega
            by_cases hlt : k < xs.length
            · obtain ⟨x, hx⟩ : ∃ x, xs[k]? = some x := ⟨_, List.getElem?_eq_getElem hlt⟩
              obtain ⟨g, rfl⟩ : ∃ g, A = some ⟨g, 0, none⟩ := hA.resolve_left (by omega)
              rw [List.drop_eq_getElem_cons hlt, show xs[k] = x from Option.some.inj ((List.getElem?_eq_getElem hlt).symm.trans hx)] at hout hsum
              obtain ⟨hxo, hx64⟩ := HOk.out x (List.mem_of_getElem? hx)
              obtain ⟨a0, a1⟩ := rowI HPW.out.base.row hx
              have hel : (encAll (x :: xs.drop (k + 1))).length = x.len + (encAll (xs.drop (k + 1))).length := by rw [show encAll (x :: xs.drop (k + 1)) = x.enc ++ encAll (xs.drop (k + 1)) from rfl, List.length_append, enc_length]
              rw [hel] at hsum
              obtain ⟨c, o⟩ := x
              have hc41 : c < 41 := hxo.1
              have H64 := Lib.hid hx64
              rw [show Ins.len ⟨c, o⟩ = 1 + widthN (shapeN c) from rfl] at hsum
              have HOut := Lib.hid hout
              have HB := Lib.hid (isB_below hIB ((Below.refl wr.heap.size wr).alloc (Nat.le_refl _) (.cells #[.int .i64 c, .int .i64 o] 35)))
              have HBq := Lib.hid (hbq.alloc hbz (.cells #[.int .i64 c, .int .i64 o] 35))
              have hbox := Lib.hid ((Below.refl wr.heap.size wr).alloc (Nat.le_refl _) (.cells #[.int .i64 c, .int .i64 o] 35))
              have hnew := Lib.hid (heap_new wr (.cells #[.int .i64 c, .int .i64 o] 35))
              clear hout hx HK hel hxo hx64 hIB hbq
              obtain ⟨wo, rfl⟩ : ∃ wo : World, wo = wr := ⟨_, rfl⟩
              go_upto_region 30 with fail
              generalize hW : wo.alloc (.cells #[.int .i64 c, .int .i64 o] 35) = W9 at *
              clear hW
              have hz9 := hbox.out.size
              have HW2 := Lib.hid (HPW.out.below hbox.out)
              have hL1 := labelT_len mk a (by omega)
              have hN1 := name_len c hc41
              have hT1 := tailT_len beg ⟨c, o⟩ a H64.out
              have HLab := Lib.hid (label_any a X13 M2 b b mk l W9 HW2.out.base.env (by omega) HW2.out.x13 HW2.out.set2 HB.out (by omega) (by omega))
              go_upto_region 32 with (first | (go_at_call 14; refine HLab.out.mono ?_; rintro e w2 ⟨rfl, hw2⟩; have n2 := hw2.2.2 _ _ hnew.out; have z2 := box_cell n2 0; simp only [List.getElem?_toArray, List.getElem?_cons_zero] at z2; have hq2 : Below wq.heap.size wq w2 := (Hb.out.symm ▸ HBq.out.trans hw2.2.1); have g2 := names_cell (HQ.out.below hq2).base.names c hc41; have HW3 := Lib.hid hw2; have HQ2 := Lib.hid hq2; clear hw2 hq2 n2) | (go_at_call 15; refine (ws_t b b (l ++ labelT mk a) (nameOf c) _ w2 (by simp) HW3.out.1 (by simp; omega) (by have := HQ2.out.size; have := Hb.out; omega)).mono ?_; rintro e w3 ⟨⟨n9, rfl⟩, hw3⟩))
              have hq3 : Below wq.heap.size wq w3 := HQ2.out.trans (Hb.out.symm ▸ hw3.2.1)
              have n3 := Lib.hid (hw3.2.2 _ _ (HW3.out.2.2 _ _ hnew.out))
              have HW5 := Lib.hid (HQ.out.below hq3)
              have HB5 := Lib.hid hw3.1
              have HQ3 := Lib.hid hq3
              have hz3 : b ≤ w3.heap.size := by have := hq3.size; have := Hb.out; omega
              have hbw3 := Lib.hid (HBq.out.trans (HW3.out.2.1.trans hw3.2.1))
              clear hw3 hq3 HW3 HQ2 HLab HB HW2 z2 g2
              have y0 := box_cell n3.out 0
              have y1 := box_cell n3.out 1
              simp only [List.getElem?_toArray, List.getElem?_cons_succ, List.getElem?_cons_zero] at y0 y1
              have HT0 := to_any ⟨c, o⟩ a X8 M beg w3 hc41 (by omega) HW5.out.base.x8 HW5.out.base.set
              generalize hrb : (leadsB (Ins.c ⟨c, o⟩) && beg (tgt ⟨c, o⟩ a)) = rb at HT0
              have HRb : Hid (refB beg ⟨c, o⟩ a = rb) := hrb
              have HT := Lib.hid HT0
              clear hrb HT0
              have htg := tgt_in64 ⟨c, o⟩ a H64.out
              have hil := Lib.itoa_length_le (tgt ⟨c, o⟩ a) htg.1 htg.2
              have hil2 := Lib.itoa_length_le o H64.out.1 H64.out.2
              have h64' : -9223372036854775808 ≤ o ∧ o ≤ 9223372036854775807 := H64.out
              have hlt0 : (l ++ labelT mk a ++ nameOf c).length ≤ 64 * k + 30 := by simp; omega
              generalize hl9 : l ++ labelT mk a ++ nameOf c = l9 at *
              have HL9 := Lib.hid hl9
              clear hl9
              go_upto_if 99 with (go_at_call 12; refine HT.out.mono ?_; rintro e w6 ⟨hb6, rfl⟩; have n6 := Lib.hid (show w6.heap[wo.heap.size]? = some (.cells #[.int .i64 c, .int .i64 o] 35 (0, 0)) from by rw [hb6.block _ (heap_lt n3.out)]; exact n3.out); have z0 := box_cell n6.out 0; have z1 := box_cell n6.out 1; simp only [List.getElem?_toArray, List.getElem?_cons_succ, List.getElem?_cons_zero] at z0 z1; have HB6 := Lib.hid (isB_below HB5.out hb6); have HW6 := Lib.hid (HW5.out.below hb6); have HQ6 := Lib.hid (hbw3.out.trans (hb6.mono hz3)); have hz6 := hb6.size)
              go_cut [9, 21, 22, 23, 79] from 79 to 119 (fun v9 v21 _ _ v79 wc => v9 = .int .i64 a ∧ v21 = .pointer (some ⟨wo.heap.size, 0, none⟩) ∧ v79 = .int .i64 k ∧ Hid (IsB b b (Lib.byteCells (l9 ++ tailT beg ⟨c, o⟩ a)) wc ∧ Below b wq wc ∧ wc.heap[wo.heap.size]? = some (.cells #[.int .i64 c, .int .i64 o] 35 (0, 0))))
              case first =>
                cases rb with
                | true =>
                  have HTT : Hid (tailT beg ⟨c, o⟩ a = [32, 76] ++ Lib.itoa (tgt ⟨c, o⟩ a)) := by show tailT _ _ _ = _; rw [tailT, if_pos HRb.out]
                  go_wp2_with (first | (go_at_call 16; refine (itoa_any (tgt ⟨c, o⟩ a) htg.1 htg.2 _ HW6.out.base.env).mono ?_; rintro e w7 ⟨rfl, hb7⟩) | (go_at_call 15; refine (ws_t b b l9 (tailT beg ⟨c, o⟩ a) _ w7 (by rw [HTT.out]; simp [ByteArray.data_append]) (isB_below HB6.out hb7) (by omega) (by have := hb7.size; omega)).mono ?_; rintro e w8 ⟨⟨n9, rfl⟩, hw8⟩))
                  go_meet
                  case rel => exact ⟨rfl, rfl, rfl, hw8.1, (HQ6.out.trans (hb7.mono (Nat.le_trans hz3 hz6))).trans hw8.2.1, hw8.2.2 _ _ (Keep.below hb7 _ _ n6.out)⟩
                | false =>
                  have HR2 := HRb
                  by_cases hw1 : 0 < widthN (shapeN c)
                  · have HTT : Hid (tailT beg ⟨c, o⟩ a = [32] ++ Lib.itoa o) := by
                      show tailT _ _ _ = _
                      rw [tailT, if_neg (by rw [HR2.out]; decide), if_pos (by show 1 < 1 + widthN (shapeN c); omega)]
                    have hd1 : decide ((1 : Int) < ((1 + widthN (shapeN c) : Nat) : Int)) = true := by rw [decide_eq_true_iff]; omega
                    go_wp2_with (first | (go_at_call 11; refine (bytes_any _ hc41 _ HW6.out.base.env.tab).mono ?_; rintro e w7 ⟨rfl, hb7⟩; have m7 := box_cell (Keep.below hb7 _ _ n6.out) 1; simp only [List.getElem?_toArray, List.getElem?_cons_succ, List.getElem?_cons_zero] at m7) | (go_at_call 17; refine (format_any o h64'.1 h64'.2 _ (HW6.out.base.env.grown hb7)).mono ?_; rintro e w8 ⟨rfl, hb8⟩) | (go_at_call 15; refine (ws_t b b l9 (tailT beg ⟨c, o⟩ a) _ w8 (by rw [HTT.out]; simp [ByteArray.data_append]) (isB_below (isB_below HB6.out hb7) hb8) (by omega) (by have := hb7.size; have := hb8.size; omega)).mono ?_; rintro e w9 ⟨⟨n9, rfl⟩, hw9⟩))
                    go_meet
                    case rel => exact ⟨rfl, rfl, rfl, hw9.1, ((HQ6.out.trans (hb7.mono (Nat.le_trans hz3 hz6))).trans (hb8.mono (Nat.le_trans (Nat.le_trans hz3 hz6) hb7.size))).trans hw9.2.1, hw9.2.2 _ _ (Keep.below hb8 _ _ (Keep.below hb7 _ _ n6.out))⟩
                  · have HTT : Hid (tailT beg ⟨c, o⟩ a = []) := by
                      show tailT _ _ _ = _
                      rw [tailT, if_neg (by rw [HR2.out]; decide), if_neg (by show ¬ 1 < 1 + widthN (shapeN c); omega)]
                    have hd1 : decide ((1 : Int) < ((1 + widthN (shapeN c) : Nat) : Int)) = false := by rw [decide_eq_false_iff_not]; omega
                    go_wp2_with (go_at_call 11; refine (bytes_any _ hc41 _ HW6.out.base.env.tab).mono ?_; rintro e w7 ⟨rfl, hb7⟩)
                    go_meet
                    case rel => exact ⟨rfl, rfl, rfl, by rw [HTT.out, List.append_nil]; exact isB_below HB6.out hb7, HQ6.out.trans (hb7.mono (Nat.le_trans hz3 hz6)), Keep.below hb7 _ _ n6.out⟩
              case rest =>
                obtain ⟨rfl, rfl, rfl, hIBc, hbc, nc⟩ := hcut
                clear HT HW5 HB5 n3 y0 y1
                have hzc : b ≤ wc.heap.size := by have := hbc.size; have := Hb.out; omega
                have HWB := Lib.hid (wb_any b b (l9 ++ tailT beg ⟨c, o⟩ a) 10 wc hIBc (by simp; omega) hzc)
                have NC := Lib.hid nc
                have HBC := Lib.hid hbc
                clear hIBc nc hbc
                go_wp2_with (first | (go_at_call 18; refine HWB.out.mono ?_; rintro e w7 ⟨rfl, hw7⟩; have m7 := box_cell (hw7.2.2 _ _ NC.out) 0; simp only [List.getElem?_toArray, List.getElem?_cons_zero] at m7; have HE7 := Lib.hid (HQ.out.below (Hb.out.symm ▸ HBC.out.trans hw7.2.1 : Below wq.heap.size wq w7)).base.env) | (go_at_call 11; refine (bytes_any _ hc41 _ HE7.out.tab).mono ?_; rintro e w8 ⟨rfl, hb8⟩))
                go_roundw
                case rel =>
                  refine ⟨k + 1, a + (1 + widthN (shapeN c)), l9 ++ tailT beg ⟨c, o⟩ a ++ [10], by go_num, by go_num, by omega, by omega, by simp; omega, ?_, isB_below hw7.1 hb8, (HBC.out.trans hw7.2.1).trans (hb8.mono (by have := hw7.2.1.size; omega))⟩
                  rw [HOut.out, outT, ← HL9.out, lineT]
                  simp only [List.append_assoc]
                  rfl
                case measure => first | (simp [intOf]; done) | (simp [intOf]; omega)
            · have hkn : k = xs.length := by omega
              subst hkn
              rw [List.drop_eq_nil_of_le (Nat.le_refl _), outT] at hout
              have HLab := Lib.hid (label_any a X13 M2 b b mk l wr HPW.out.base.env (by omega) HPW.out.x13 HPW.out.set2 hIB (by omega) hbz)
              have HBq := Lib.hid hbq
              have HOut := Lib.hid hout
              have hpf : Hid (printF s.data.toList = .ok (l ++ labelT mk a)) := by
                show printF _ = _
                rw [printF, if_neg h5, HDd.out]
                simp only
                rw [hsz, HBM.out.1, HBM.out.2, hout]
              clear hIB hbq hout HK hsum hk hlt
              obtain ⟨wo, rfl⟩ : ∃ wo : World, wo = wr := ⟨_, rfl⟩
              have hbb : w.heap.size ≤ b := by have := HQ.out.base.bel.size; have := Hb.out; omega
              have HBel := Lib.hid HQ.out.base.bel
              go_wp2_with (first | (go_at_call 14; refine HLab.out.mono ?_; rintro e w7 ⟨rfl, hw7⟩) | (go_at_call 19; refine (Tryd.Builder_String_any b b (l ++ labelT mk a) w7 hw7.1 (Nat.le_trans hbz hw7.2.1.size)).mono ?_; rintro e w8 ⟨rfl, hb8⟩))
              go_ret2
              exact ⟨HBel.out.trans ((HBq.out.trans (hw7.2.1.trans hb8)).mono hbb), by rw [hpf.out]; rfl⟩
theorem print_any (s : ByteArray) (w : World) (hE : Env w) (hs : s.size ≤ 1048576) : Calls Tryd.prog 5 #[.string s] w (PrintPost w s.data.toList) := by
  by_cases h5 : 512 < s.data.toList.length
  · exact print_err s w hE hs 2 (by decide) (by rw [printF, if_pos h5])
  · cases hd : decF s.data.toList with
    | none => exact print_err s w hE hs 10 (by decide) (by rw [printF, if_neg h5, hd])
    | some xs => exact print_some s w hE h5 xs hd
end Go.Proofs.YtbigllcononkbaaDoor
