/- Sets of places as maps, and the walks of asm.Print's closures. -/
import Derived.Test.YtbigllcononkbaaDoorC7
import Derived.Test.YtbigllcononkbaaDoorM1
import Derived.Test.YtbigllcononkbaaDoorE1
import Derived.Test.YtbigllcononkbaaDoorL7
import Derived.Test.YtbigllcononkbaaDoorC5
import Derived.Lib.ItoaLen
namespace Go.Proofs.YtbigllcononkbaaDoor
open Go Go.RowKit

theorem MapIs.look1 {P : Program} {t : TypeId} {κ : Type} [DecidableEq κ] (K : KeyEnc P t κ) {w : World} {M : Nat} {l : List (κ × Value)} {mt e : TypeId} (h : MapIs K w M l) (ht : P.underlying mt = some (.map t e)) {z : Value} (hz : (zeroValue e).run P w = .ok z w) (k : κ) :
    (Instr.lookup mt (.map (some M)) (K.enc k) false).run P w = .ok ((lookL l k).getD z) w := by
  obtain ⟨es, clock, hb, hl⟩ := h
  have hobj : (getObj M).run P w = .ok (.map es clock) w := by simp [getObj, Sem.run, hb]
  rcases findNow_list K k es.toList l 0 hl with ⟨j, v, r1, r2, _⟩ | ⟨r1, r2, _⟩
  · have hf := run_findKey K k w r1
    simp [Instr.lookup, run_underlying ht, K.chk, hobj, hf, r2]
  · have hf := run_findKey K k w r1
    simp [Instr.lookup, run_underlying ht, K.chk, hobj, hf, r2, hz]
noncomputable def intK : KeyEnc Tryd.prog 3 Int := intKeys Tryd.prog 3 .i64 Tryd.underlying3
/-- A set of numbers, as a map that says 'true' at its members. -/
def SetIs (w : World) (M : Nat) (p : Int → Bool) : Prop := ∃ l, MapIs intK w M l ∧ ∀ k, lookL l k = if p k = true then some (.bool true) else none
theorem SetIs.look {w : World} {M : Nat} {p : Int → Bool} (h : SetIs w M p) (k : Int) (w' : World) (hb : w'.heap[M]? = w.heap[M]?) : (Instr.lookup 33 (.map (some M)) (.int .i64 k) false).run Tryd.prog w' = .ok (.bool (p k)) w' := by
  obtain ⟨l, h1, h2⟩ := h
  have := MapIs.look1 intK (h1.of_block intK hb) Tryd.underlying33 (e := 4) (z := .bool false) (by kernel_rfl) k
  rw [h2] at this
  refine this.trans ?_
  cases p k <;> rfl
theorem SetIs.put {w : World} {M : Nat} {p : Int → Bool} (h : SetIs w M p) (k : Int) : ∃ w', (Instr.mapUpdate 33 (.map (some M)) (.int .i64 k) (.bool true)).run Tryd.prog w = .ok () w' ∧ SetIs w' M (fun q => p q || decide (q = k)) ∧ w.grownBy w' (some M) := by
  obtain ⟨l, h1, h2⟩ := h
  obtain ⟨w', r1, r2, r3⟩ := h1.put intK Tryd.underlying33 k (.bool true)
  refine ⟨w', r1, ⟨_, r2, fun q => ?_⟩, r3⟩
  rw [lookL_put, h2]
  by_cases hq : q = k
  · simp [hq]
  · simp [hq]
theorem SetIs.lt {w : World} {M : Nat} {p : Int → Bool} (h : SetIs w M p) : M < w.heap.size := by
  obtain ⟨l, h1, _⟩ := h
  exact h1.lt intK
theorem SetIs.of_block {w w' : World} {M : Nat} {p : Int → Bool} (h : SetIs w M p) (hb : w'.heap[M]? = w.heap[M]?) : SetIs w' M p := by
  obtain ⟨l, h1, h2⟩ := h
  exact ⟨l, h1.of_block intK hb, h2⟩
theorem _root_.Go.RowKit.Below.drewN' {B : Nat} {w w' : World} (h : Below B w w') (n : Nat) : Below B w (w'.drewN n) := ⟨h.os, h.tape, h.output, h.size, h.block⟩
/-- Where an instruction leads. -/
def tgt (x : Ins) (a : Nat) : Int := if x.c = 26 then x.o else wrap64 (x.o + ((a : Int) + 3))
set_option maxRecDepth 100000 in
set_option maxHeartbeats 1600000 in
theorem to_any (x : Ins) (a X M : Nat) (p : Int → Bool) (w : World) (hc : x.c < 41) (ha : a ≤ 1048576) (hX : w.heap[X]? = some (.cells #[.map (some M)] 33 (0, 0))) (hM : SetIs w M p) :
    Calls Tryd.prog 12 #[.agg #[.int .i64 x.c, .int .i64 x.o], .int .i64 a, .pointer (some ⟨X, 0, none⟩)] w fun e w' =>
      Below w.heap.size w w' ∧ e = .returned (.tuple #[.int .i64 (tgt x a), .bool (leadsB x.c && p (tgt x a))]) := by
  obtain ⟨c, o⟩ := x
  simp only at hc ⊢
  have hbx : Below w.heap.size w (w.alloc (.cells #[.int .i64 c, .int .i64 o] 35)) := (Below.refl _ _).alloc (Nat.le_refl _) _
  have HX := Lib.hid (heap_old (.cells #[.int .i64 c, .int .i64 o] 35) hX)
  have HY := Lib.hid (heap_new w (.cells #[.int .i64 c, .int .i64 o] 35))
  have HM := Lib.hid (hM.of_block (hbx.block M hM.lt))
  clear hX hM
  go_enter Tryd.func12, Tryd.ntmps12
  go_upto_region 1 with fail
  generalize hW : w.alloc (.cells #[.int .i64 c, .int .i64 o] 35) = W at *
  clear hW
  have x0 := box_cell HX.out 0
  have y0 := box_cell HY.out 0
  have y1 := box_cell HY.out 1
  simp only [List.getElem?_toArray, List.getElem?_cons_succ, List.getElem?_cons_zero] at x0 y0 y1
  have hlk : ∀ nq q, (Instr.lookup 33 (.map (some M)) (.int .i64 q) false).run Tryd.prog (W.drewN nq) = .ok (.bool (p q)) (W.drewN nq) := fun nq q => HM.out.look q _ rfl
  go_upto_if 12 with fail
  go_cut [7] (fun v7 wc => v7 = .int .i64 (tgt ⟨c, o⟩ a) ∧ Hid (wc = W))
  case first =>
    by_cases h26 : c = 26
    · subst h26
      go_wp2
      go_meet
      case rel => exact ⟨rfl, rfl⟩
    · have hne : ((c : Int) != 26) = true := by simp; omega
      go_wp2
      go_meet
      case rel => exact ⟨by rw [tgt, if_neg (by exact h26)], rfl⟩
  case rest =>
    obtain ⟨rfl, hw⟩ := hcut
    obtain rfl := hw.out
    go_upto_region 4 with fail
    have hlc := fun w => leads_any c w
    cases hl : leadsB c with
    | true =>
      rw [hl] at hlc
      go_quiet (exact Calls.quiet_of_same (hlc _))
      go_wp2
      go_ret2
      exact ⟨hbx.drewN' _, by simp⟩
    | false =>
      rw [hl] at hlc
      go_quiet (exact Calls.quiet_of_same (hlc _))
      go_wp2
      go_ret2
      exact ⟨hbx.drewN' _, by simp⟩
/-- What a call that writes to the builder may turn. -/
def WPost (B b : Nat) (l : List UInt8) (w : World) (w' : World) : Prop := IsB B b (Lib.byteCells l) w' ∧ Below B w w' ∧ Keep w w'
theorem ws_any (B b : Nat) (l : List UInt8) (s : ByteArray) (w : World) (h : IsB B b (Lib.byteCells l) w) (hlen : l.length + s.size ≤ 140737488355328) (hBw : B ≤ w.heap.size) :
    Calls Tryd.prog 15 #[.pointer (some ⟨b, 0, none⟩), .string s] w fun e w' => e = .returned (.tuple #[.int .i64 s.size, .nilIface]) ∧ WPost B b (l ++ s.data.toList) w w' := by
  refine (writeString_any B b _ s w h (by rw [Lib.byteCells_length]; exact hlen) hBw).mono ?_
  rintro e w' ⟨rfl, h1, h2, h3⟩
  refine ⟨rfl, .inr ?_, h2, h3⟩
  have : Lib.byteCells (l ++ s.data.toList) = Lib.byteCells l ++ Lib.strCells s := by simp [Lib.byteCells, Lib.strCells]
  rw [this]
  exact h1
theorem ws_t (B b : Nat) (l t : List UInt8) (s : ByteArray) (w : World) (hs : s.data.toList = t) (h : IsB B b (Lib.byteCells l) w) (hlen : l.length + t.length ≤ 140737488355328) (hBw : B ≤ w.heap.size) :
    Calls Tryd.prog 15 #[.pointer (some ⟨b, 0, none⟩), .string s] w fun e w' => (∃ n : Int, e = .returned (.tuple #[.int .i64 n, .nilIface])) ∧ WPost B b (l ++ t) w w' := by
  subst hs
  refine (ws_any B b l s w h (by rw [Array.length_toList] at hlen; exact hlen) hBw).mono ?_
  rintro e w' ⟨rfl, h1⟩
  exact ⟨⟨_, rfl⟩, h1⟩
theorem wb_any (B b : Nat) (l : List UInt8) (c : UInt8) (w : World) (h : IsB B b (Lib.byteCells l) w) (hlen : l.length + 1 ≤ 140737488355328) (hBw : B ≤ w.heap.size) :
    Calls Tryd.prog 18 #[.pointer (some ⟨b, 0, none⟩), .int .u8 c.toNat] w fun e w' => e = .returned .nilIface ∧ WPost B b (l ++ [c]) w w' := by
  refine (writeByte_any B b _ c.toNat w h (by rw [Lib.byteCells_length]; exact hlen) hBw).mono ?_
  rintro e w' ⟨rfl, h1, h2, h3⟩
  refine ⟨rfl, .inr ?_, h2, h3⟩
  have : Lib.byteCells (l ++ [c]) = Lib.byteCells l ++ [.int .u8 c.toNat] := by simp [Lib.byteCells]
  rw [this]
  exact h1
theorem isB_below {B b : Nat} {l : List Value} {w w' : World} (h : IsB B b l w) (hb : Below w.heap.size w w') : IsB B b l w' := by
  have key : ∀ p, BAt B b p l w → BAt B b p l w' := fun p h => by
    obtain ⟨h1, v, h2, h3, h4⟩ := h
    exact ⟨h1, v, by rw [hb.block b (heap_lt h2)]; exact h2, own_below h3 hb, h4⟩
  exact h.elim (fun h => .inl (key _ h)) (fun h => .inr (key _ h))
def labelT (p : Int → Bool) (a : Nat) : List UInt8 := if p a = true then [76] ++ Lib.itoa a ++ [58, 10] else []
set_option maxRecDepth 100000 in
set_option maxHeartbeats 1600000 in
theorem label_any (a X M B b : Nat) (p : Int → Bool) (l : List UInt8) (w : World) (hE : Env w) (ha : a ≤ 1048576) (hX : w.heap[X]? = some (.cells #[.map (some M)] 33 (0, 0))) (hM : SetIs w M p)
    (h : IsB B b (Lib.byteCells l) w) (hlen : l.length ≤ 1073741824) (hBw : B ≤ w.heap.size) :
    Calls Tryd.prog 14 #[.int .i64 a, .pointer (some ⟨X, 0, none⟩), .pointer (some ⟨b, 0, none⟩)] w fun e w' =>
      e = .returned (.tuple #[]) ∧ WPost B b (l ++ labelT p a) w w' := by
  have x0 := box_cell hX 0
  simp only [List.getElem?_toArray, List.getElem?_cons_succ, List.getElem?_cons_zero] at x0
  have hlk : (Instr.lookup 33 (.map (some M)) (.int .i64 a) false).run Tryd.prog w = .ok (.bool (p a)) w := hM.look a _ rfl
  have hil := Lib.itoa_length_le a (by omega) (by omega)
  have HE := Lib.hid hE
  have HB := Lib.hid h
  clear hX hM hE h
  cases hp : p a with
  | false =>
    rw [hp] at hlk
    go_enter Tryd.func14, Tryd.ntmps14
    go_wp2
    go_end0
    refine ⟨rfl, ?_⟩
    rw [labelT, hp]
    simp only [Bool.false_eq_true, if_false, List.append_nil]
    exact ⟨HB.out, Below.refl _ _, Keep.refl _⟩
  | true =>
    rw [hp] at hlk
    have HP := Lib.hid hp
    clear hp
    go_enter Tryd.func14, Tryd.ntmps14
    go_wp2_with (first | (go_at_call 16; refine (itoa_any a (by omega) (by omega) _ HE.out).mono ?_; rintro e w1 ⟨rfl, hb1⟩) | (go_at_call 15; refine (ws_t B b l ([76] ++ Lib.itoa a ++ [58, 10]) _ _ (by simp [ByteArray.data_append]) (isB_below HB.out hb1) (by simp; omega) (Nat.le_trans hBw hb1.size)).mono ?_; rintro e w2 ⟨⟨n9, rfl⟩, hw2⟩))
    go_end0
    refine ⟨rfl, ?_⟩
    rw [labelT, HP.out, if_pos rfl]
    exact ⟨hw2.1, (hb1.mono hBw).trans hw2.2.1, (Keep.below hb1).trans hw2.2.2⟩
end Go.Proofs.YtbigllcononkbaaDoor
