/- The walk of asm's (*instruction).operand. -/
import Derived.Test.YtbigllcononkbaaDoorC7
import Derived.Test.YtbigllcononkbaaDoorL4
import Derived.Deep.RegionHeld3
import Derived.BigQuiet
import Derived.Deep.QuietTactic
namespace Go.Proofs.YtbigllcononkbaaDoor
open Go Go.RowKit Go.Sort

theorem bcell {W w1 : World} (hb : Below W.heap.size W w1) : (∀ b o, b < W.heap.size → w1.cell? ⟨b, o, none⟩ = W.cell? ⟨b, o, none⟩) ∧ (∀ b o, b < W.heap.size → w1.frozen? ⟨b, o, none⟩ = W.frozen? ⟨b, o, none⟩) :=
  ⟨fun b o h => hb.cell (p := ⟨b, o, none⟩) h, fun b o h => hb.frozen (p := ⟨b, o, none⟩) h⟩
/-- An instruction that is being read lies in block X. -/
def InsAt (w : World) (X : Nat) (c : Nat) (o : Int) (p : Int) (s : ByteArray) (a : Int) : Prop :=
  w.heap[X]? = some (.cells #[.int .i64 c, .int .i64 o, .int .i64 p, .string s, .int .i64 a] 70 (0, 0))

theorem Env.drew {w : World} (h : Env w) : Env w.drew := h.of_blocks (Nat.le_refl _) fun _ _ => rfl
theorem Env.alloc {w : World} (h : Env w) (o : Obj) : Env (w.alloc o) := h.grown ((Below.refl _ _).alloc (Nat.le_refl _) _)
theorem set_heap {w : World} {X : Nat} {cs : Array Value} {t : TypeId} {fr : Nat × Nat} (h : w.heap[X]? = some (.cells cs t fr)) (o : Nat) (v : Value) : (w.setCell ⟨X, o, none⟩ v).heap[X]? = some (.cells (cs.setIfInBounds o v) t fr) := by
  simp [World.setCell, Array.getElem?_modify, h]
theorem box_free {w : World} {X : Nat} {cs : Array Value} {t : TypeId} (h : w.heap[X]? = some (.cells cs t (0, 0))) (o : Nat) : w.frozen? ⟨X, o, none⟩ = false := by
  simp [World.frozen?, h]
theorem ops_one (W : World) (c : Nat) (n : Int) (hc : c < 41) (hn : -9223372036854775808 ≤ n ∧ n ≤ 9223372036854775807) (g : Nat) (hg : g = W.heap.size) :
    OpsAt (W.alloc (.cells #[.int .i64 c, .int .i64 n] 35)) (.slice (some ⟨g, 0, none⟩) 1 1) [⟨c, n⟩] := by
  subst hg
  refine ⟨by simp, by intro x hx; simp at hx; subst hx; exact ⟨hc, hn⟩, .inr ⟨W.heap.size, 1, rfl, by simp, fun i x hx => ?_⟩⟩
  cases i with
  | zero => simp at hx; subst hx; exact ⟨by rw [World.cell?_alloc_at _ _ _ _ rfl]; rfl, by rw [World.cell?_alloc_at _ _ _ _ rfl]; rfl⟩
  | succ i => simp at hx
theorem encR_one (c : Nat) (n : Int) (hf : fitsB (shapeN c) n = true) : encR [⟨c, n⟩] [] = .ok (Ins.enc ⟨c, n⟩) := by
  have h := widthN_cases (shapeN c)
  simp only [encR, hf, if_true, List.nil_append]
  rw [if_neg]
  rw [enc_length]; unfold Ins.len Ins.w; simp only; omega
theorem encR_bad (c : Nat) (n : Int) (hf : fitsB (shapeN c) n = false) : encR [⟨c, n⟩] [] = .error 12 := by
  simp [encR, hf]
/-- FormatInt of a number that a text is: that text. -/
theorem format_back (s : ByteArray) (v : Int) (hv : Lib.itoa v = s.data.toList) (h0 : -9223372036854775808 ≤ v) (h1 : v ≤ 9223372036854775807) (w : World) (hE : Env w) :
    Calls Tryd.prog 17 #[.int .i64 v, .int .i64 10] w fun e w' => e = .returned (.string s) ∧ Below w.heap.size w w' := by
  have e : (⟨(Lib.itoa v).toArray⟩ : ByteArray) = s := by
    apply ByteArray.ext
    rw [hv]
  have := format_any v h0 h1 w hE
  rwa [e] at this
/-- What 'fail' leaves behind it. -/
def gaveUp (e a : Int) : Ending := .panicked [{ v := .iface 56 (.agg #[.int .i64 e, .int .i64 a]), recovered := false }]
/-- What becomes of an operand. -/
def OperandPost (w : World) (X c : Nat) (p : Int) (s : ByteArray) (a : Int) (e : Ending) (w' : World) : Prop :=
  w.grownBy w' (some X) ∧
  match numB s.data.toList with
  | some n => if fitsB (shapeN c) n = true then e = .returned (.tuple #[]) ∧ InsAt w' X c n p ⟨#[]⟩ 0 else e = gaveUp 12 a
  | none => if (leadsB c && nameB s.data.toList) = true then e = .returned (.tuple #[]) ∧ InsAt w' X c 0 p s a else e = gaveUp 9 a
theorem grown_of {w w2 w3 : World} {X : Nat} (h : w.grownBy w2 (some X)) (hb : Below w2.heap.size w2 w3) : w.grownBy w3 (some X) :=
  ⟨hb.os.trans h.os, hb.tape.trans h.tape, hb.output.trans h.output, Nat.le_trans h.size hb.size, fun k hk hn => by rw [hb.block k (Nat.lt_of_lt_of_le hk h.size)]; exact h.block k hk hn⟩
theorem grown_plain {w w2 : World} {r : Option Nat} (h : Below w.heap.size w w2) : w.grownBy w2 r := ⟨h.os, h.tape, h.output, h.size, fun k hk _ => h.block k hk⟩
theorem grown_drewN {w w2 : World} {r : Option Nat} (h : w.grownBy w2 r) (n : Nat) : w.grownBy (w2.drewN n) r := ⟨h.os, h.tape, h.output, h.size, h.block⟩
theorem grown_cellset {w w2 : World} {X : Nat} (h : w.grownBy w2 (some X)) (o : Nat) (v : Value) : w.grownBy (w2.setCell ⟨X, o, none⟩ v) (some X) :=
  ⟨h.os, h.tape, h.output, by rw [show (w2.setCell ⟨X, o, none⟩ v).heap.size = w2.heap.size by simp [World.setCell]]; exact h.size, fun k hk hn => by
    rw [Below.heap_setCell _ _ _ _ (fun e => hn (by rw [e])), h.block k hk hn]⟩
theorem grown_set {w w2 : World} {X : Nat} (h : Below w.heap.size w w2) (o : Nat) (v : Value) : w.grownBy (w2.setCell ⟨X, o, none⟩ v) (some X) :=
  ⟨h.os, h.tape, h.output, by rw [show (w2.setCell ⟨X, o, none⟩ v).heap.size = w2.heap.size by simp [World.setCell]]; exact h.size, fun k hk hn => by
    rw [Below.heap_setCell _ _ _ _ (fun e => hn (by rw [e])), h.block k hk]⟩
set_option maxRecDepth 100000 in
set_option maxHeartbeats 1600000 in
/-- An operand that is a number, in its range. -/
theorem operand_num (X c : Nat) (n p : Int) (s : ByteArray) (a : Int) (w : World) (hs : s.size ≤ 1048576) (hE : Env w) (hX : InsAt w X c 0 p ⟨#[]⟩ 0) (hX11 : 11 < X) (hc : c < 41) (hn : numB s.data.toList = some n) :
    Calls Tryd.prog 62 #[.pointer (some ⟨X, 0, none⟩), .agg #[.string s, .int .i64 a]] w (OperandPost w X c p s a) := by
  have HN := Lib.hid hn
  unfold numB at hn
  rcases hp : Lib.parseIntB 64 s.data.toList with v | _ | _
  ·
    rw [hp] at hn
    simp only at hn
    split at hn
    · rename_i hv
      obtain rfl : v = n := Option.some.inj hn
      clear hn
      have HV := Lib.hid hv
      have HP := Lib.hid hp
      clear hv hp
      have x0 := box_cell hX 0
      have x1 := box_cell hX 1
      simp only [List.getElem?_toArray, List.getElem?_cons_succ, List.getElem?_cons_zero] at x0 x1
      have hXl := heap_lt hX
      have HE := Lib.hid hE
      have HX := Lib.hid hX
      clear hE hX
      go_enter Tryd.func62, Tryd.ntmps62
      go_wp2_with ((go_at_call 80; refine (parse_ok _ _ HP.out hs _).mono ?_; rintro e w' ⟨rfl, hb⟩; have hcs := (bcell hb).1))
      have hv0 := (parseIntB_in64 _ _ HP.out).1
      have hv1 := (parseIntB_in64 _ _ HP.out).2
      have hE1 : Env w' := (HE.out.alloc _).grown hb
      have HE1 := Lib.hid hE1
      have hb0 := hcs w.heap.size 0 (by simp)
      have hb1 := hcs w.heap.size 1 (by simp)
      rw [World.cell?_alloc_at _ _ _ _ rfl] at hb0 hb1
      simp only [List.getElem?_toArray, List.getElem?_cons_zero, List.getElem?_cons_succ] at hb0 hb1
      have hbs := hb.size
      simp at hbs
      clear hE1
      go_region_held3 (fun w2 => w2.cell? ⟨w.heap.size, 0, none⟩ = some (.string s) ∧ w2.cell? ⟨w.heap.size, 1, none⟩ = some (.int .i64 a)) (first | go_keep | (go_split_ands; exact ⟨by rw [hb2.cell (by simp; omega)]; assumption, by rw [hb2.cell (by simp; omega)]; assumption⟩))
        (first | (go_at_call 17; refine (format_back s v HV.out hv0 hv1 _ (by exact HE1.out.drew)).mono ?_; rintro e w2 ⟨rfl, hb2⟩))
      go_split_ands
      have hq1 : w2.cell? ⟨w.heap.size, 1, none⟩ = some (.int .i64 a) := by assumption
      have hB2 : Below w.heap.size w w2 := ((Below.refl _ _).alloc (Nat.le_refl _) _).trans ((hb.mono (by simp)).drew.trans (hb2.mono (by show w.heap.size ≤ w'.heap.size; omega)))
      have hX2 : InsAt w2 X c 0 p ⟨#[]⟩ 0 := by
        have := HX.out
        unfold InsAt at this ⊢
        rw [hB2.block X hXl]; exact this
      have x0 := box_cell hX2 0
      have x1 := box_cell hX2 1
      have f1 := box_free hX2 1
      simp only [List.getElem?_toArray, List.getElem?_cons_succ, List.getElem?_cons_zero] at x0 x1
      have HX2 := Lib.hid hX2
      have hXl2 := heap_lt hX2
      have HB2 := Lib.hid hB2
      clear hX2 hB2 hcs hb hb2 HE1
      have hT2 : Tab ((w2.setCell ⟨X, 1, none⟩ (.int .i64 v)).alloc (.cells #[.int .i64 c, .int .i64 v] 35)) := by
        have hE2 : Env w2 := HE.out.grown HB2.out
        have hE3 : Env (w2.setCell ⟨X, 1, none⟩ (.int .i64 v)) := hE2.of_blocks (by simp [World.setCell]) fun k hk => Below.heap_setCell _ _ _ _ (by simp; omega)
        exact (hE3.alloc _).tab
      have HT2 := Lib.hid hT2
      clear hT2
      have hO := encode_any _ _ _ (ops_one (w2.setCell ⟨X, 1, none⟩ (.int .i64 v)) c v hc ⟨hv0, hv1⟩ w2.heap.size (by simp [World.setCell])) HT2.out
      have HO := Lib.hid hO
      clear hO
      have h31 : ∀ w3, Below ((w2.setCell ⟨X, 1, none⟩ (.int .i64 v)).alloc (.cells #[.int .i64 c, .int .i64 v] 35)).heap.size ((w2.setCell ⟨X, 1, none⟩ (.int .i64 v)).alloc (.cells #[.int .i64 c, .int .i64 v] 35)) w3 → w3.cell? ⟨w.heap.size, 1, none⟩ = some (.int .i64 a) := fun w3 hb3 => by
        have hz := World.block_lt_of_cell? _ _ hq1
        simp only at hz
        have hz2 : w.heap.size < (w2.setCell ⟨X, 1, none⟩ (.int .i64 v)).heap.size := by simp [World.setCell]; exact hz
        rw [hb3.cell (by simp; omega), World.cell?_alloc_past _ _ _ hz2, World.cell?_setCell_other _ _ _ _ (by simp)]
        exact hq1
      have H31 := Lib.hid h31
      clear h31
      cases hf : fitsB (shapeN c) v
      · have hr := encR_bad c v hf
        have HR := Lib.hid hr
        clear hr
        go_wp2_with (first | (go_at_call 26; refine HO.out.mono ?_; rintro e w3 ⟨hb3, he⟩; rw [HR.out] at he; obtain ⟨k3, rfl⟩ := he; have h31 := H31.out _ hb3) | (go_at_call 25; refine (fail_any _ _ _).mono ?_; rintro e w3 ⟨rfl, rfl⟩))
        refine ⟨rfl, grown_of (grown_set HB2.out 1 (.int .i64 v)) (((Below.refl _ _).alloc (Nat.le_refl _) _).trans (hb3.mono (by simp))), ?_⟩
        rw [HN.out]
        simp only [hf]
        rfl
      · have hr := encR_one c v hf
        have HR := Lib.hid hr
        clear hr
        go_wp2_with (first | (go_at_call 26; refine HO.out.mono ?_; rintro e w3 ⟨hb3, he⟩; rw [HR.out] at he; obtain rfl := he))
        go_end0
        refine ⟨grown_of (grown_set HB2.out 1 (.int .i64 v)) (((Below.refl _ _).alloc (Nat.le_refl _) _).trans (hb3.mono (by simp))), ?_⟩
        rw [HN.out]
        simp only [hf, if_true]
        refine ⟨trivial, ?_⟩
        unfold InsAt
        have hxs := set_heap HX2.out 1 (.int .i64 v)
        rw [hb3.block X (by simp [World.setCell]; omega), Below.heap_alloc _ _ _ (heap_lt hxs), hxs]
        rfl
    · cases hn
  · rw [hp] at hn; cases hn
  · rw [hp] at hn; cases hn
set_option maxRecDepth 100000 in
set_option maxHeartbeats 1600000 in
/-- An operand that is no number: the parse fails. -/
theorem operand_err (X c : Nat) (p : Int) (s : ByteArray) (a : Int) (w : World) (hs : s.size ≤ 1048576) (hE : Env w) (hX : InsAt w X c 0 p ⟨#[]⟩ 0) (hX11 : 11 < X) (hp : ∀ v, Lib.parseIntB 64 s.data.toList ≠ .ok v) :
    Calls Tryd.prog 62 #[.pointer (some ⟨X, 0, none⟩), .agg #[.string s, .int .i64 a]] w (OperandPost w X c p s a) := by
  have hn : numB s.data.toList = none := by
    unfold numB
    split
    · rename_i v hv; exact absurd hv (hp v)
    · rfl
  have HN := Lib.hid hn
  have HP := Lib.hid hp
  clear hn hp
  have hXl := heap_lt hX
  have HE := Lib.hid hE
  have HX := Lib.hid hX
  clear hE hX
  go_enter Tryd.func62, Tryd.ntmps62
  go_wp2_with ((go_at_call 80; refine (parse_bad _ HP.out hs _ (by exact HE.out.alloc _)).mono ?_; rintro e w2 ⟨n2, N2, rfl, hb⟩; have hcs := (bcell hb).1))
  have hbs := hb.size
  simp at hbs
  have hb0 := hcs w.heap.size 0 (by simp)
  have hb1 := hcs w.heap.size 1 (by simp)
  rw [World.cell?_alloc_at _ _ _ _ rfl] at hb0 hb1
  simp only [List.getElem?_toArray, List.getElem?_cons_zero, List.getElem?_cons_succ] at hb0 hb1
  have hB2 : Below w.heap.size w w2 := ((Below.refl _ _).alloc (Nat.le_refl _) _).trans (hb.mono (by simp))
  have hX2 : InsAt w2 X c 0 p ⟨#[]⟩ 0 := by
    have := HX.out
    unfold InsAt at this ⊢
    rw [hB2.block X hXl]; exact this
  have x0 := box_cell hX2 0
  simp only [List.getElem?_toArray, List.getElem?_cons_succ, List.getElem?_cons_zero] at x0
  have HX2 := Lib.hid hX2
  have HB2 := Lib.hid hB2
  clear hX2 hB2 hcs hb
  go_wp2_with fail
  go_quiet (fail)
  have f3 := box_free HX2.out 3
  have f4 := box_free HX2.out 4
  have x3 := box_cell HX2.out 3
  have x4 := box_cell HX2.out 4
  simp only [List.getElem?_toArray, List.getElem?_cons_succ, List.getElem?_cons_zero] at x3 x4
  have hX2l := heap_lt HX2.out
  cases hl : leadsB c
  · have HL := Lib.hid hl
    clear hl
    go_wp2_with (first | (go_at_call 13; refine (leads_any _ _).mono ?_; rw [HL.out]; rintro e w3 ⟨rfl, rfl⟩) | (go_at_call 25; refine (fail_any _ _ _).mono ?_; rintro e w3 ⟨rfl, rfl⟩))
    exact ⟨rfl, grown_drewN (grown_plain HB2.out) _, by rw [HN.out]; simp only [HL.out, Bool.false_and, Bool.false_eq_true, if_false]; rfl⟩
  · have HL := Lib.hid hl
    clear hl
    cases hm : nameB s.data.toList
    · have HM := Lib.hid hm
      clear hm
      go_wp2_with (first | (go_at_call 13; refine (leads_any _ _).mono ?_; rw [HL.out]; rintro e w3 ⟨rfl, rfl⟩) | (go_at_call 42; refine (named_any _ _ (by omega)).mono ?_; rw [HM.out]; rintro e w3 ⟨rfl, rfl⟩) | (go_at_call 25; refine (fail_any _ _ _).mono ?_; rintro e w3 ⟨rfl, rfl⟩))
      exact ⟨rfl, grown_drewN (grown_plain HB2.out) _, by rw [HN.out]; simp only [HL.out, HM.out, Bool.and_false, Bool.false_eq_true, if_false]; rfl⟩
    · have HM := Lib.hid hm
      clear hm
      go_wp2_with (first | (go_at_call 13; refine (leads_any _ _).mono ?_; rw [HL.out]; rintro e w3 ⟨rfl, rfl⟩) | (go_at_call 42; refine (named_any _ _ (by omega)).mono ?_; rw [HM.out]; rintro e w3 ⟨rfl, rfl⟩))
      refine bodyPost_ret (v := .tuple #[]) (results_none rfl _ _ _) rfl ?_
      refine ⟨?_, ?_⟩
      · refine grown_cellset (grown_cellset ?_ _ _) _ _
        exact grown_drewN (grown_plain HB2.out) _
      · rw [HN.out]
        simp only [HL.out, HM.out, Bool.and_true, if_true]
        refine ⟨trivial, ?_⟩
        unfold InsAt
        have hxs := set_heap (w := w2) HX2.out 3 (.string s)
        have hxt := set_heap hxs 4 (.int .i64 a)
        exact hxt
set_option maxRecDepth 100000 in
set_option maxHeartbeats 1600000 in
/-- An operand that is no number: it is read as one whose text is another. -/
theorem operand_alt (X c : Nat) (p : Int) (s : ByteArray) (a : Int) (w : World) (hs : s.size ≤ 1048576) (hE : Env w) (hX : InsAt w X c 0 p ⟨#[]⟩ 0) (hX11 : 11 < X) (v : Int) (hp : Lib.parseIntB 64 s.data.toList = .ok v) (hv : Lib.itoa v ≠ s.data.toList) :
    Calls Tryd.prog 62 #[.pointer (some ⟨X, 0, none⟩), .agg #[.string s, .int .i64 a]] w (OperandPost w X c p s a) := by
  have hn : numB s.data.toList = none := by
    unfold numB
    rw [hp]
    simp only [if_neg hv]
  have HN := Lib.hid hn
  have hv0 := (parseIntB_in64 _ _ hp).1
  have hv1 := (parseIntB_in64 _ _ hp).2
  have hne : ((⟨(Lib.itoa v).toArray⟩ : ByteArray).toList == s.toList) = false := by
    rw [beq_eq_false_iff_ne, ByteArray.toList_eq, ByteArray.toList_eq]
    exact hv
  generalize hq : (⟨(Lib.itoa v).toArray⟩ : ByteArray) = q at hne
  have HQ := Lib.hid hq
  have HP := Lib.hid hp
  clear hn hp hq hv
  have hXl := heap_lt hX
  have HE := Lib.hid hE
  have HX := Lib.hid hX
  clear hE hX
  go_enter Tryd.func62, Tryd.ntmps62
  go_wp2_with ((go_at_call 80; refine (parse_ok _ _ HP.out hs _).mono ?_; rintro e w' ⟨rfl, hb⟩; have hcs := (bcell hb).1))
  have hE1 : Env w' := (HE.out.alloc _).grown hb
  have HE1 := Lib.hid hE1
  have hb0 := hcs w.heap.size 0 (by simp)
  have hb1 := hcs w.heap.size 1 (by simp)
  rw [World.cell?_alloc_at _ _ _ _ rfl] at hb0 hb1
  simp only [List.getElem?_toArray, List.getElem?_cons_zero, List.getElem?_cons_succ] at hb0 hb1
  have hbs := hb.size
  simp at hbs
  clear hE1
  go_region_held3 (fun w2 => w2.cell? ⟨w.heap.size, 0, none⟩ = some (.string s) ∧ w2.cell? ⟨w.heap.size, 1, none⟩ = some (.int .i64 a)) (first | go_keep | (go_split_ands; exact ⟨by rw [hb2.cell (by simp; omega)]; assumption, by rw [hb2.cell (by simp; omega)]; assumption⟩))
    (first | (go_at_call 17; refine (format_any v hv0 hv1 _ (by exact HE1.out.drew)).mono ?_; rw [HQ.out]; rintro e w2 ⟨rfl, hb2⟩))
  go_split_ands
  have hB2 : Below w.heap.size w w2 := ((Below.refl _ _).alloc (Nat.le_refl _) _).trans ((hb.mono (by simp)).drew.trans (hb2.mono (by show w.heap.size ≤ w'.heap.size; omega)))
  have hX2 : InsAt w2 X c 0 p ⟨#[]⟩ 0 := by
    have := HX.out
    unfold InsAt at this ⊢
    rw [hB2.block X hXl]; exact this
  have x0 := box_cell hX2 0
  simp only [List.getElem?_toArray, List.getElem?_cons_succ, List.getElem?_cons_zero] at x0
  have HX2 := Lib.hid hX2
  have HB2 := Lib.hid hB2
  clear hX2 hB2 hcs hb hb2 HE1 hb0 hb1
  have f3 := box_free HX2.out 3
  have f4 := box_free HX2.out 4
  have x3 := box_cell HX2.out 3
  have x4 := box_cell HX2.out 4
  simp only [List.getElem?_toArray, List.getElem?_cons_succ, List.getElem?_cons_zero] at x3 x4
  have hX2l := heap_lt HX2.out
  cases hl : leadsB c
  · have HL := Lib.hid hl
    clear hl
    go_wp2_with (first | (go_at_call 13; refine (leads_any _ _).mono ?_; rw [HL.out]; rintro e w3 ⟨rfl, rfl⟩) | (go_at_call 25; refine (fail_any _ _ _).mono ?_; rintro e w3 ⟨rfl, rfl⟩))
    exact ⟨rfl, (by first | exact grown_plain HB2.out | exact grown_drewN (grown_plain HB2.out) _), by rw [HN.out]; simp only [HL.out, Bool.false_and, Bool.false_eq_true, if_false]; rfl⟩
  · have HL := Lib.hid hl
    clear hl
    cases hm : nameB s.data.toList
    · have HM := Lib.hid hm
      clear hm
      go_wp2_with (first | (go_at_call 13; refine (leads_any _ _).mono ?_; rw [HL.out]; rintro e w3 ⟨rfl, rfl⟩) | (go_at_call 42; refine (named_any _ _ (by omega)).mono ?_; rw [HM.out]; rintro e w3 ⟨rfl, rfl⟩) | (go_at_call 25; refine (fail_any _ _ _).mono ?_; rintro e w3 ⟨rfl, rfl⟩))
      exact ⟨rfl, (by first | exact grown_plain HB2.out | exact grown_drewN (grown_plain HB2.out) _), by rw [HN.out]; simp only [HL.out, HM.out, Bool.and_false, Bool.false_eq_true, if_false]; rfl⟩
    · have HM := Lib.hid hm
      clear hm
      go_wp2_with (first | (go_at_call 13; refine (leads_any _ _).mono ?_; rw [HL.out]; rintro e w3 ⟨rfl, rfl⟩) | (go_at_call 42; refine (named_any _ _ (by omega)).mono ?_; rw [HM.out]; rintro e w3 ⟨rfl, rfl⟩))
      refine bodyPost_ret (v := .tuple #[]) (results_none rfl _ _ _) rfl ?_
      refine ⟨?_, ?_⟩
      · refine grown_cellset (grown_cellset ?_ _ _) _ _
        exact (by first | exact grown_plain HB2.out | exact grown_drewN (grown_plain HB2.out) _)
      · rw [HN.out]
        simp only [HL.out, HM.out, Bool.and_true, if_true]
        refine ⟨trivial, ?_⟩
        unfold InsAt
        have hxs := set_heap HX2.out 3 (.string s)
        have hxt := set_heap hxs 4 (.int .i64 a)
        exact hxt
/-- (*instruction).operand. -/
theorem operand_any (X c : Nat) (p : Int) (s : ByteArray) (a : Int) (w : World) (hs : s.size ≤ 1048576) (hE : Env w) (hX : InsAt w X c 0 p ⟨#[]⟩ 0) (hX11 : 11 < X) (hc : c < 41) :
    Calls Tryd.prog 62 #[.pointer (some ⟨X, 0, none⟩), .agg #[.string s, .int .i64 a]] w (OperandPost w X c p s a) := by
  rcases hp : Lib.parseIntB 64 s.data.toList with v | _ | _
  ·
    by_cases hv : Lib.itoa v = s.data.toList
    · exact operand_num X c v p s a w hs hE hX hX11 hc (by unfold numB; rw [hp]; simp only [if_pos hv])
    · exact operand_alt X c p s a w hs hE hX hX11 v hp hv
  · exact operand_err X c p s a w hs hE hX hX11 (fun v h => by rw [hp] at h; cases h)
  · exact operand_err X c p s a w hs hE hX hX11 (fun v h => by rw [hp] at h; cases h)
/-- (*instruction).operand, by the plain law. -/
theorem operand_F (X c : Nat) (p : Int) (t : Tok) (w : World) (hs : t.1.length ≤ 1048576) (hE : Env w) (hX : InsAt w X c 0 p ⟨#[]⟩ 0) (hX11 : 11 < X) (hc : c < 41) :
    Calls Tryd.prog 62 #[.pointer (some ⟨X, 0, none⟩), .agg #[.string ⟨t.1.toArray⟩, .int .i64 t.2]] w fun e w' => w.grownBy w' (some X) ∧
      match operF c t with | .ok (o, nm) => e = .returned (.tuple #[]) ∧ InsAt w' X c o p ⟨nm.1.toArray⟩ nm.2 | .error (n, a) => e = gaveUp n a := by
  refine (operand_any X c p ⟨t.1.toArray⟩ t.2 w (by simpa [ByteArray.size] using hs) hE hX hX11 hc).mono fun e w' ⟨hg, h⟩ => ⟨hg, ?_⟩
  simp only [List.toList_toArray] at h
  unfold operF
  cases hn : numB t.1 with
  | some n =>
    rw [hn] at h
    simp only at h ⊢
    cases hf : fitsB (shapeN c) n with
    | true => rw [hf] at h; simpa using h
    | false => rw [hf] at h; simpa using h
  | none =>
    rw [hn] at h
    simp only at h ⊢
    cases hf : leadsB c && nameB t.1 with
    | true => rw [hf] at h; simpa using h
    | false => rw [hf] at h; simpa using h
end Go.Proofs.YtbigllcononkbaaDoor
