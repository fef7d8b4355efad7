/- The walk of asm's (*reader).line. -/
import Derived.Test.YtbigllcononkbaaDoorC9
namespace Go.Proofs.YtbigllcononkbaaDoor
open Go Go.RowKit

def labV (ls : Labs) : List (ByteArray × Value) := ls.map fun p => (⟨p.1.toArray⟩, .int .i64 p.2)
theorem bytes_inj {a b : List UInt8} : (⟨a.toArray⟩ : ByteArray) = ⟨b.toArray⟩ ↔ a = b :=
  ⟨fun h => by have := congrArg (fun x : ByteArray => x.data.toList) h; simpa using this, fun h => by rw [h]⟩
theorem trimSuffix_le (l p : List UInt8) : (Lib.trimSuffix l p).length ≤ l.length := by
  unfold Lib.trimSuffix
  split
  · rw [List.length_take]; omega
  · exact Nat.le_refl _
theorem cell_block {w : World} {g o : Nat} {v : Value} (h : w.cell? ⟨g, o, none⟩ = some v) : ∃ cs t fr, w.heap[g]? = some (.cells cs t fr) := by
  simp only [World.cell?] at h
  split at h
  · rename_i c t fr hh; exact ⟨c, t, fr, hh⟩
  · cases h
theorem RdAt.labels {w w' : World} {B R M1 M2 : Nat} {codes : List UInt8 → Option Nat} {labels labels' : List (ByteArray × Value)} {lv : Value} {xs : List InsR} {size : Nat} (h : RdAt w B R M1 M2 codes labels lv xs size)
    (hg : w.grownBy w' (some M2)) (hm : MapIs strK w' M2 labels') : RdAt w' B R M1 M2 codes labels' lv xs size where
  b11 := h.b11
  bR := h.bR
  bM1 := h.bM1
  bM2 := h.bM2
  ne := h.ne
  cells := by rw [hg.block R (heap_lt h.cells) (by simpa using fun e => h.lmap.ne_row strK h.cells e.symm)]; exact h.cells
  cmap := by
    obtain ⟨cl, c1, c2⟩ := h.cmap
    exact ⟨cl, c1.of_block strK (hg.block _ (c1.lt strK) (by simpa using h.ne)), c2⟩
  lmap := hm
  row := by
    obtain ⟨r1, r2⟩ := h.row
    refine ⟨r1, ?_⟩
    rcases r2 with r2 | ⟨gg, cap, cur, rfl, r3, r4, r5⟩
    · exact .inl r2
    · exact .inr ⟨gg, cap, cur, rfl, r3, by rw [hg.block gg (heap_lt r4) (by simpa using fun e => h.lmap.ne_row strK r4 e.symm)]; exact r4, r5⟩
  few := h.few
theorem lookL_lab (ls : Labs) (k : List UInt8) : lookL (labV ls) ⟨k.toArray⟩ = (lookN ls k).map fun n => .int .i64 n := by
  induction ls with
  | nil => rfl
  | cons p ls ih =>
    by_cases h : k = p.1
    · simp [lookL, labV, lookN, h]
    · have h2 : ¬ (⟨k.toArray⟩ : ByteArray) = ⟨p.1.toArray⟩ := fun e => h (bytes_inj.1 e)
      simp only [lookL, labV, lookN, List.map_cons, List.find?_cons, h, h2, decide_false] at ih ⊢
      exact ih
theorem putL_lab (ls : Labs) (k : List UInt8) (n : Nat) (h : lookN ls k = none) : putL (labV ls) ⟨k.toArray⟩ (.int .i64 n) = labV (ls ++ [(k, n)]) := by
  induction ls with
  | nil => rfl
  | cons p ls ih =>
    by_cases hk : k = p.1
    · simp [lookN, hk] at h
    · have h2 : ¬ (⟨k.toArray⟩ : ByteArray) = ⟨p.1.toArray⟩ := fun e => hk (bytes_inj.1 e)
      have h3 : lookN ls k = none := by
        simp only [lookN, List.find?_cons, hk, decide_false] at h ⊢
        exact h
      simp only [labV, List.map_cons, List.cons_append, putL, h2, if_false]
      have := ih h3
      simp only [labV] at this
      rw [this]
def LinePost (lv : Value) (w : World) (B R M1 M2 : Nat) (codes : List UInt8 → Option Nat) (ls : Labs) (xs : List InsR) (size : Nat) (ts : List Tok) (e : Ending) (w' : World) : Prop :=
  FrameR w w' R M2 lv ∧
  match lineF codes ls size ts with
  | .error (n, a) => e = gaveUp n a
  | .ok (ls', none) => e = .returned (.tuple #[]) ∧ ∃ lv, RdAt w' B R M1 M2 codes (labV ls') lv xs size
  | .ok (ls', some i) => e = .returned (.tuple #[]) ∧ ∃ lv, RdAt w' B R M1 M2 codes (labV ls') lv (xs ++ [i]) (size + (1 + widthN (shapeN i.c)))

set_option maxRecDepth 100000 in
set_option maxHeartbeats 1600000 in
/-- A line without tokens. -/
theorem line_nil (B R M1 M2 : Nat) (codes : List UInt8 → Option Nat) (ls : Labs) (lv : Value) (xs : List InsR) (size : Nat) (A : Option Addr) (cap : Nat) (w : World)
    (hR : RdAt w B R M1 M2 codes (labV ls) lv xs size) :
    Calls Tryd.prog 23 #[.pointer (some ⟨R, 0, none⟩), .slice A 0 cap] w (LinePost lv w B R M1 M2 codes ls xs size []) := by
  have HR := Lib.hid hR
  clear hR
  go_enter Tryd.func23, Tryd.ntmps23
  go_wp2
  refine bodyPost_ret (v := .tuple #[]) (results_none rfl _ _ _) rfl ?_
  exact ⟨FrameR.refl _ _ _ _, rfl, lv, HR.out⟩
set_option maxRecDepth 100000 in
set_option maxHeartbeats 1600000 in
theorem line_some (B R M1 M2 : Nat) (codes : List UInt8 → Option Nat) (ls : Labs) (lv : Value) (xs : List InsR) (size g off cap : Nat) (t0 : Tok) (ts : List Tok) (w : World)
    (hR : RdAt w B R M1 M2 codes (labV ls) lv xs size) (hE : Env w) (hB : B ≤ w.heap.size) (hT : TokAt w g off (t0 :: ts)) (hcap : ts.length + 1 ≤ cap) (hcm : cap ≤ maxLen) :
    Calls Tryd.prog 23 #[.pointer (some ⟨R, 0, none⟩), .slice (some ⟨g, off, none⟩) (ts.length + 1) cap] w (LinePost lv w B R M1 M2 codes ls xs size (t0 :: ts)) := by
  unfold maxLen at hcm
  obtain ⟨ht0, ht1⟩ := hT.head
  have hlen : ts.length ≤ 1048577 := by have := hT.1; simp at this; omega
  have ht0b := hT.2.1 t0 List.mem_cons_self
  have hs0 : (⟨t0.1.toArray⟩ : ByteArray).size ≤ 1048576 := by simpa [ByteArray.size] using ht0b.1
  have HC : Hid (Calls Tryd.prog 41 #[.string ⟨t0.1.toArray⟩, .string ⟨#[58]⟩] w fun e w' => e = .returned (.tuple #[.string ⟨(Lib.trimSuffix t0.1 [58]).toArray⟩, .bool (Lib.hasSuffix t0.1 [58])]) ∧ w' = w) := Tryd.strings_CutSuffix ⟨t0.1.toArray⟩ ⟨#[58]⟩ w (by omega)
  have HR := Lib.hid hR
  have HT := Lib.hid hT
  have HE := Lib.hid hE
  have hg := hT.2.2.1
  clear hR hT hE
  go_enter Tryd.func23, Tryd.ntmps23
  go_upto_if 19 with ((go_at_call 41; refine HC.out.mono ?_; rintro e w' ⟨rfl, h'⟩; rw [h']; clear h' w'))
  go_cut [1, 5, 11, 16, 18, 19] (fun v1 _ _ _ _ _ wc => ∃ (ls' : Labs) (ts' : List Tok) (off' cap' : Nat), v1 = .slice (some ⟨g, off', none⟩) ts'.length cap' ∧ Hid (labStage ls size t0 ts = .ok (ls', ts') ∧ FrameR w wc R M2 lv ∧ RdAt wc B R M1 M2 codes (labV ls') lv xs size ∧ TokAt wc g off' ts' ∧ Env wc ∧ B ≤ wc.heap.size ∧ ts'.length ≤ cap' ∧ cap' ≤ cap))
  case first =>
    cases hsf : Lib.hasSuffix t0.1 [58] with
    | false =>
      go_wp2
      go_meet
      case rel => exact ⟨ls, t0 :: ts, off, cap, rfl, by simp only [labStage, hsf]; rfl, FrameR.refl _ _ _ _, HR.out, HT.out, HE.out, hB, hcap, Nat.le_refl _⟩
    | true =>
      have hnb : (⟨(Lib.trimSuffix t0.1 [58]).toArray⟩ : ByteArray).size ≤ 1048576 := by
        show (List.toArray _).size ≤ _
        rw [List.size_toArray]
        exact Nat.le_trans (trimSuffix_le _ _) ht0b.1
      cases hnm : nameB (Lib.trimSuffix t0.1 [58]) with
      | false =>
        have HN := Lib.hid hnm
        clear hnm
        go_wp2_with (first | (go_at_call 42; refine (named_any _ _ (by omega)).mono ?_; rw [HN.out]; rintro e w3 ⟨rfl, h3⟩; rw [h3]; clear h3 w3) | (go_at_call 25; refine (fail_any _ _ _).mono ?_; rintro e w3 ⟨rfl, h3⟩; rw [h3]; clear h3 w3))
        exact ⟨rfl, FrameR.refl _ _ _ _, by simp only [lineF, labStage, hsf, HN.out]; rfl⟩
      | true =>
        have HN := Lib.hid hnm
        clear hnm
        have hr1 := box_cell HR.out.cells 1
        have hr3 := box_cell HR.out.cells 3
        simp at hr1 hr3
        have hRl := heap_lt HR.out.cells
        have hz : ∀ W, (zeroValue 3).run Tryd.prog W = .ok (.int .i64 0) W := fun W => by kernel_rfl
        have hlk := HR.out.lmap.look strK Tryd.underlying59 (hz w) ⟨(Lib.trimSuffix t0.1 [58]).toArray⟩
        rw [lookL_lab] at hlk
        cases hln : lookN ls (Lib.trimSuffix t0.1 [58]) with
        | some q =>
          have HL := Lib.hid hln
          rw [hln] at hlk
          have hlk' : (Instr.lookup 59 (.map (some M2)) (.string ⟨(Lib.trimSuffix t0.1 [58]).toArray⟩) true).run Tryd.prog w = .ok (.tuple #[.int .i64 q, .bool true]) w := hlk
          clear hln hz hlk
          go_wp2_with (first | (go_at_call 42; refine (named_any _ _ (by omega)).mono ?_; rw [HN.out]; rintro e w3 ⟨rfl, h3⟩; rw [h3]; clear h3 w3) | (go_at_call 25; refine (fail_any _ _ _).mono ?_; rintro e w3 ⟨rfl, h3⟩; rw [h3]; clear h3 w3))
          exact ⟨rfl, FrameR.refl _ _ _ _, by simp only [lineF, labStage, hsf, HN.out, HL.out]; rfl⟩
        | none =>
          have HL := Lib.hid hln
          rw [hln] at hlk
          have hlk' : (Instr.lookup 59 (.map (some M2)) (.string ⟨(Lib.trimSuffix t0.1 [58]).toArray⟩) true).run Tryd.prog w = .ok (.tuple #[.int .i64 0, .bool false]) w := hlk
          obtain ⟨w1, hput, hmp, hgp⟩ := (HR.out.lmap.of_block strK (w' := w.drew) rfl).put strK Tryd.underlying59 ⟨(Lib.trimSuffix t0.1 [58]).toArray⟩ (.int .i64 size)
          have hput' : (Instr.mapUpdate 59 (.map (some M2)) (.string ⟨(Lib.trimSuffix t0.1 [58]).toArray⟩) (.int .i64 size)).run Tryd.prog w.drew = .ok () w1 := hput
          rw [putL_lab _ _ _ hln] at hmp
          have HMP := Lib.hid hmp
          have HGP := Lib.hid hgp
          clear hln hz hlk hmp hgp hput
          go_wp2_with (first | (go_at_call 42; refine (named_any _ _ (by omega)).mono ?_; rw [HN.out]; rintro e w3 ⟨rfl, h3⟩; rw [h3]; clear h3 w3))
          go_region_law (fail)
          all_goals
            have hgp' : w.grownBy w1 (some M2) := ⟨HGP.out.os, HGP.out.tape, HGP.out.output, HGP.out.size, HGP.out.block⟩
            have hR1 : RdAt w1 B R M1 M2 codes (labV (ls ++ [(Lib.trimSuffix t0.1 [58], size)])) lv xs size := HR.out.labels hgp' HMP.out
            have hos : labStage ls size t0 ts = .ok (ls ++ [(Lib.trimSuffix t0.1 [58], size)], ts) := by simp only [labStage, hsf, HN.out, HL.out]; rfl
            have hE1 : Env w1 := HE.out.of_blocks hgp'.size fun k hk => hgp'.block k (by have := HR.out.b11; have := HR.out.bM2; have := HR.out.lmap.lt strK; omega) (by have := HR.out.b11; have := HR.out.bM2; simp; omega)
            have hB1 : FrameR w w1 R M2 lv := (FrameR.refl w R M2 lv).then_grown hgp' (.inr rfl)
            have hT1 : TokAt w1 g off (t0 :: ts) := by
              obtain ⟨cs, tt, fr, hcb⟩ := cell_block ht0
              exact HT.out.below (hgp'.block g hg (by simpa using fun e => HR.out.lmap.ne_row strK hcb e.symm))
            have hz1 := hgp'.size
            have HT1 := Lib.hid hT1
            clear hT1 ht0 ht1 hput'
            go_wp2
            · have hts : ts = [] := List.length_eq_zero_iff.1 (by omega)
              go_meet
              case rel => exact ⟨ls ++ [(Lib.trimSuffix t0.1 [58], size)], ts, off, 0, rfl, hos, hB1, hR1, by subst hts; exact ⟨by simp, by simp, HT1.out.2.2.1, by simp⟩, hE1, by omega, by subst hts; simp, by omega⟩
            · go_meet
              case rel => exact ⟨ls ++ [(Lib.trimSuffix t0.1 [58], size)], ts, off + 2, cap - 1, rfl, hos, hB1, hR1, HT1.out.tail, hE1, by omega, by omega, by omega⟩
  case rest =>
    obtain ⟨ls', ts', off', cap', rfl, HM⟩ := hcut
    obtain ⟨hos, hb, hR1, hT1, hE1, hB1, hc1, hc2⟩ := HM.out
    have HOS := Lib.hid hos
    have HX := Lib.hid hb
    clear hos hb HM HC HR HT HE
    cases ts' with
    | nil =>
      go_wp2
      go_end0
      exact ⟨HX.out, by simp only [lineF, HOS.out]; exact ⟨trivial, lv, hR1⟩⟩
    | cons t1 ts1 =>
      have hi := ins_any B R M1 M2 codes (labV ls') lv xs size g off' cap' t1 ts1 wc hR1 hE1 hB1 hT1 hc1
      have HI := Lib.hid hi
      have hl1 := hT1.1
      clear hi hR1 hE1 hT1
      cases hif : insF codes size (t1 :: ts1) with
      | error x =>
        obtain ⟨xe, xa⟩ := x
        have HF := Lib.hid hif
        clear hif
        go_wp2_with ((go_at_call 43; refine HI.out.mono ?_; rintro e w3 ⟨hb3, he3⟩; rw [HF.out] at he3; unfold gaveUp at he3; obtain rfl := he3))
        exact ⟨rfl, HX.out.trans hb3, by simp only [lineF, HOS.out, HF.out]; rfl⟩
      | ok i =>
        have HF := Lib.hid hif
        clear hif
        go_wp2_with ((go_at_call 43; refine HI.out.mono ?_; rintro e w3 ⟨hb3, he3⟩; rw [HF.out] at he3; obtain ⟨rfl, hr3⟩ := he3; have HR3 := Lib.hid hr3; clear hr3))
        go_end0
        exact ⟨HX.out.trans hb3, by simp only [lineF, HOS.out, HF.out]; exact ⟨trivial, HR3.out⟩⟩
end Go.Proofs.YtbigllcononkbaaDoor
