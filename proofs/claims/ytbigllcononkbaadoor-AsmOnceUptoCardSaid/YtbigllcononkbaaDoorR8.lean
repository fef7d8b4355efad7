/- The walk of the definition's labels (layer 14). -/
import Derived.Test.YtbigllcononkbaaDoorR7
import Derived.Deep.QuietTactic
import Derived.BigQuiet
namespace Go.Proofs.YtbigllcononkbaaDoor
open Go Go.RowKit

theorem suffix_last (l : List UInt8) (b : UInt8) (h : l.getLast? = some b) : Lib.hasSuffix l [58] = decide (b = 58) ∧ Lib.trimSuffix l [58] = if b = 58 then l.dropLast else l := by
  obtain ⟨p, rfl⟩ : ∃ p, l = p ++ [b] := by
    rcases List.eq_nil_or_concat l with rfl | ⟨p, c, rfl⟩
    · cases h
    · rw [List.concat_eq_append] at h ⊢
      rw [List.getLast?_append] at h
      simp at h
      exact ⟨p, by rw [h]⟩
  have h1 : Lib.hasSuffix (p ++ [b]) [58] = decide (b = 58) := by
    simp [Lib.hasSuffix, List.isSuffixOf, List.isPrefixOf]
    rw [Bool.eq_iff_iff]
    simp only [beq_iff_eq, decide_eq_true_eq]
    exact eq_comm
  refine ⟨h1, ?_⟩
  unfold Lib.trimSuffix
  rw [h1]
  by_cases hb : b = 58
  · simp [hb]
  · simp [hb]
/-- What labels leaves. -/
def LabelsPost (w : World) (B X : Nat) (vO vA vN : Value) (ls : Labs) (xs : List InsR) (size g : Nat) (t0 : Tok) (ts : List Tok) (e : Ending) (w' : World) : Prop :=
  KeptX B X w w' ∧
  match labStage ls size t0 ts with
  | .error (n, a) => e = .returned (.tuple #[.slice none 0 0, .int .i64 n, .int .i64 a])
  | .ok (ls', rest) => ∃ off cap vL, e = .returned (.tuple #[.slice (some ⟨g, off, none⟩) rest.length cap, .int .i64 0, .int .i64 0]) ∧ rest.length ≤ cap ∧ cap ≤ maxLen ∧ TokAt w' g off rest ∧ AsmAt w' B X vO vA vN vL ls' xs size
theorem last_byte (q : ByteArray) (h : q.size - 1 < q.size) : q.data.toList.getLast? = some (q[q.size - 1]'h) := by
  have hl : q.data.toList.length = q.size := Array.length_toList
  rw [List.getLast?_eq_getElem?, hl, List.getElem?_eq_getElem (by omega)]
  rfl
theorem AsmAt.heap {w w' : World} {B X : Nat} {vO vA vN vL : Value} {ls : Labs} {xs : List InsR} {size : Nat} (h : AsmAt w B X vO vA vN vL ls xs size) (hh : w'.heap = w.heap) : AsmAt w' B X vO vA vN vL ls xs size where
  bX := h.bX
  cells := by rw [hh]; exact h.cells
  ops := own_same h.ops fun _ _ => by rw [hh]
  ats := own_same h.ats fun _ _ => by rw [hh]
  names := own_same h.names fun _ _ => by rw [hh]
  labs := own_same h.labs fun _ _ => by rw [hh]
  ne := h.ne
  few := h.few
theorem AsmAt.label {W4 w1 : World} {B X : Nat} {vO vA vN vL : Value} {ls : Labs} {xs : List InsR} {size gg capr : Nat} {nm : List UInt8} {zq : ByteArray} (h : AsmAt W4 B X vO vA vN vL ls xs size) (hB : B ≤ W4.heap.size) (o : Obj)
    (hgrow : ((W4.alloc o).drew).grownBy w1 vL.ownBlock) (hown1 : w1.ownsRow B 85 2 (.slice (some ⟨gg, 0, none⟩) (ls.length + 1) capr) (ls.length + 1) (cellsL ls ++ [.string zq, .int .i64 size]))
    (hat : vL.ownBlock = some gg ∨ gg = W4.heap.size + 1) (hz : (⟨nm.toArray⟩ : ByteArray) = zq) :
    KeptX B X W4 (w1.setCell ⟨X, 4, none⟩ (.slice (some ⟨gg, 0, none⟩) (ls.length + 1) capr)) ∧
    AsmAt (w1.setCell ⟨X, 4, none⟩ (.slice (some ⟨gg, 0, none⟩) (ls.length + 1) capr)) B X vO vA vN (.slice (some ⟨gg, 0, none⟩) (ls.length + 1) capr) (ls ++ [(nm, size)]) xs size := by
  have hX := heap_lt h.cells
  have hnX : some X ≠ vL.ownBlock := own_ne_box h.labs h.cells (by decide)
  have hs : (W4.alloc o).drew.heap.size = W4.heap.size + 1 := by simp
  have hk : ∀ k, k < W4.heap.size → some k ≠ vL.ownBlock → k ≠ X → (w1.setCell ⟨X, 4, none⟩ (.slice (some ⟨gg, 0, none⟩) (ls.length + 1) capr)).heap[k]? = W4.heap[k]? := fun k h1 h2 h3 => by
    rw [Below.heap_setCell _ _ _ _ h3, hgrow.block k (by omega) h2]
    exact Below.heap_alloc _ _ _ h1
  have hX1 : w1.heap[X]? = W4.heap[X]? := by
    rw [hgrow.block X (by omega) hnX]
    exact Below.heap_alloc _ _ _ hX
  have hlB : ∀ g, vL.ownBlock = some g → B ≤ g := fun g hg => (own_lt h.labs hg).2
  have hbX := h.bX
  have row : ∀ {e size n : Nat} {v : Value} {ys : List Value}, W4.ownsRow B e size v n ys → (∀ g, v.ownBlock = some g → some g ≠ vL.ownBlock) → (w1.setCell ⟨X, 4, none⟩ (.slice (some ⟨gg, 0, none⟩) (ls.length + 1) capr)).ownsRow B e size v n ys := fun hr hne =>
    own_same hr fun g hg => hk g (own_lt hr hg).1 (hne g hg) (by have := (own_lt hr hg).2; omega)
  refine ⟨⟨hgrow.os, hgrow.tape, hgrow.output, by have := hgrow.size; simp [World.setCell] at this ⊢; omega, fun k h1 h2 => hk k (by omega) (fun e => by have := hlB k e.symm; omega) h2⟩, ⟨h.bX, ?_, ?_, ?_, ?_, ?_, ?_, h.few⟩⟩
  · rw [set_heap (by rw [hX1]; exact h.cells) 4]
    rfl
  · exact row h.ops fun g hg => own_types h.ops h.labs (by decide) hg
  · exact row h.ats fun g hg => own_types h.ats h.labs (by decide) hg
  · exact row h.names fun g hg e => h.ne g hg e.symm
  · rw [cellsL_snoc, List.length_append, List.length_singleton, hz]
    exact own_setCell hown1 (by intro e; have e2 : X = gg := Option.some.inj e; have : B ≤ gg := (own_lt hown1 rfl).2; omega) _
  · intro g hg e
    have e2 : gg = g := Option.some.inj e
    subst e2
    rcases hat with hat | hat
    · exact h.ne gg hg hat
    · have := (own_lt h.names hg).1
      omega
set_option maxRecDepth 100000 in
set_option maxHeartbeats 1600000 in
/-- A line without a label. -/
theorem labels_plain (B X : Nat) (vO vA vN vL : Value) (ls : Labs) (xs : List InsR) (size g off cap : Nat) (t0 : Tok) (ts : List Tok) (w : World)
    (hA : AsmAt w B X vO vA vN vL ls xs size) (hT : TokAt w g off (t0 :: ts)) (hcap : ts.length + 1 ≤ cap) (hcm : cap ≤ maxLen) (h0 : t0.1 ≠ []) (hgB : g < B) (hgX : g ≠ X) (hBw : B ≤ w.heap.size) (hls : ls.length ≤ 1048576) (hs : t0.1.getLast? ≠ some 58) :
    Calls Tryd.prog 47 #[.pointer (some ⟨X, 0, none⟩), .slice (some ⟨g, off, none⟩) (ts.length + 1) cap] w (LabelsPost w B X vO vA vN ls xs size g t0 ts) := by
  obtain ⟨hu0, hu1⟩ := hT.head
  have hgl := hT.2.2.1
  have hlen : ts.length ≤ 1048577 := by have := hT.1; simp at this; omega
  have hzz : t0.1.length ≤ 1048576 := (hT.2.1 t0 List.mem_cons_self).1
  obtain ⟨q, hq⟩ : ∃ q : ByteArray, q = ⟨t0.1.toArray⟩ := ⟨_, rfl⟩
  have hqd : q.data.toList = t0.1 := by rw [hq]
  have hqz : q.size = t0.1.length := by rw [← hqd, Array.length_toList]; rfl
  have hq0 : 0 < q.size := by rw [hqz]; exact List.length_pos_iff.2 h0
  have hidx : q.size - 1 < q.size := by omega
  have hlb := last_byte q hidx
  rw [hqd] at hlb
  have hsx := suffix_last t0.1 _ hlb
  rw [← hq] at hu0
  have hqs : q.size ≤ 1048576 := by omega
  have hg0 : (((ts.length : Int) + 1) == 0) = false := by rw [beq_eq_false_iff_ne]; omega
  have hw1 : IntKind.i64.wrap ((q.size : Int) - 1) = (q.size : Int) - 1 := IntWalk.i64_in _ (by omega)
  have hix : ∀ wx, (Instr.index 9 (.string q) (.int .i64 ((q.size : Int) - 1))).run Tryd.prog wx = .ok (.int .u8 ((q[q.size - 1]'hidx).toNat : Int)) wx := fun wx => by
    rw [run_index_string wx 9 q .i64 _ Tryd.underlying9, dif_pos ⟨by omega, by omega⟩]
    congr 3
    simp only [show ((q.size : Int) - 1).toNat = q.size - 1 by omega]
  have hw3 : 0 ≤ (q.size : Int) - 1 := by omega
  have hw4 : 1 ≤ (q.size : Int) := by omega
  have hne : q[q.size - 1]'hidx ≠ 58 := fun e => hs (by rw [hlb, e])
  have hst : labStage ls size t0 ts = .ok (ls, t0 :: ts) := by
    unfold labStage
    rw [hsx.1, if_neg (by simpa using hne)]
  have hb58 : (((q[q.size - 1]'hidx).toNat : Int) != 58) = true := by
    have : (((q[q.size - 1]'hidx).toNat : Int) == 58) = false := byte_ne (n := 58) (by omega) hne
    rw [bne, this]; rfl
  have HST := Lib.hid hst
  have HA := Lib.hid hA
  have HT := Lib.hid hT
  clear hst hA hT hsx hlb hqd hqz hq hs h0 hne
  go_enter Tryd.func47, Tryd.ntmps47
  go_wp2_with fail
  go_quiet (fail)
  go_wp2_with fail
  go_ret3
  refine ⟨⟨rfl, rfl, rfl, Nat.le_refl _, fun _ _ _ => rfl⟩, ?_⟩
  rw [HST.out]
  exact ⟨off, cap, vL, rfl, by simpa using hcap, hcm, HT.out.below rfl, HA.out.heap rfl⟩
set_option maxRecDepth 100000 in
set_option maxHeartbeats 1600000 in
/-- What stands ahead of ':' is no name. -/
theorem labels_text (B X : Nat) (vO vA vN vL : Value) (ls : Labs) (xs : List InsR) (size g off cap : Nat) (t0 : Tok) (ts : List Tok) (w : World)
    (hA : AsmAt w B X vO vA vN vL ls xs size) (hT : TokAt w g off (t0 :: ts)) (hcap : ts.length + 1 ≤ cap) (hcm : cap ≤ maxLen) (h0 : t0.1 ≠ []) (hgB : g < B) (hgX : g ≠ X) (hBw : B ≤ w.heap.size) (hls : ls.length ≤ 1048576) (hs : t0.1.getLast? = some 58) (hn : nameB t0.1.dropLast = false) :
    Calls Tryd.prog 47 #[.pointer (some ⟨X, 0, none⟩), .slice (some ⟨g, off, none⟩) (ts.length + 1) cap] w (LabelsPost w B X vO vA vN ls xs size g t0 ts) := by
  obtain ⟨hu0, hu1⟩ := hT.head
  have hgl := hT.2.2.1
  have hlen : ts.length ≤ 1048577 := by have := hT.1; simp at this; omega
  have hzz : t0.1.length ≤ 1048576 := (hT.2.1 t0 List.mem_cons_self).1
  obtain ⟨q, hq⟩ : ∃ q : ByteArray, q = ⟨t0.1.toArray⟩ := ⟨_, rfl⟩
  have hqd : q.data.toList = t0.1 := by rw [hq]
  have hqz : q.size = t0.1.length := by rw [← hqd, Array.length_toList]; rfl
  have hq0 : 0 < q.size := by rw [hqz]; exact List.length_pos_iff.2 h0
  have hidx : q.size - 1 < q.size := by omega
  have hlb := last_byte q hidx
  rw [hqd] at hlb
  have hsx := suffix_last t0.1 _ hlb
  rw [← hq] at hu0
  have hqs : q.size ≤ 1048576 := by omega
  have hg0 : (((ts.length : Int) + 1) == 0) = false := by rw [beq_eq_false_iff_ne]; omega
  have hw1 : IntKind.i64.wrap ((q.size : Int) - 1) = (q.size : Int) - 1 := IntWalk.i64_in _ (by omega)
  have hix : ∀ wx, (Instr.index 9 (.string q) (.int .i64 ((q.size : Int) - 1))).run Tryd.prog wx = .ok (.int .u8 ((q[q.size - 1]'hidx).toNat : Int)) wx := fun wx => by
    rw [run_index_string wx 9 q .i64 _ Tryd.underlying9, dif_pos ⟨by omega, by omega⟩]
    congr 3
    simp only [show ((q.size : Int) - 1).toNat = q.size - 1 by omega]
  have hw3 : 0 ≤ (q.size : Int) - 1 := by omega
  have hw4 : 1 ≤ (q.size : Int) := by omega
  have hs2 : q[q.size - 1]'hidx = 58 := by rw [hs] at hlb; exact (Option.some.inj hlb).symm
  have hb58 : (((q[q.size - 1]'hidx).toNat : Int) != 58) = false := by rw [hs2]; rfl
  obtain ⟨zq, hnq⟩ : ∃ zq : ByteArray, zq = q.extract 0 (q.size - 1) := ⟨_, rfl⟩
  have hnd : zq.data.toList = t0.1.dropLast := by
    rw [hnq, ByteArray.data_extract, Array.toList_extract, List.extract_eq_take_drop, hqd, List.drop_zero, List.dropLast_eq_take, hqz]
    rfl
  have hnz : zq.size ≤ 1048576 := by rw [hnq, ByteArray.size_extract]; omega
  have hsl : ∀ wx, (Instr.slice 9 (.string q) none (some (.int .i64 ((q.size : Int) - 1))) none).run Tryd.prog wx = .ok (.string zq) wx := fun wx => by
    rw [run_slice_string_to_if wx 9 q .i64 _ Tryd.underlying9, if_pos ⟨by omega, by omega⟩, hnq]
    congr 3
    omega
  have htr : Lib.trimSuffix t0.1 [58] = zq.data.toList := by rw [hsx.2, if_pos hs2, hnd]
  have hsf : Lib.hasSuffix t0.1 [58] = true := by rw [hsx.1, hs2]; rfl
  have hst : labStage ls size t0 ts = .error (9, t0.2) := by
    unfold labStage
    rw [if_pos hsf, htr, hnd, if_neg (by rw [hn]; decide)]
  have hnm : nameB zq.data.toList = false := by rw [hnd]; exact hn
  have HNM := Lib.hid hnm
  have HST := Lib.hid hst
  have HA := Lib.hid hA
  have HT := Lib.hid hT
  clear hst hA hT hsx hlb hqd hqz hq hs h0 hs2 hn htr hsf hnd hnq hnm
  go_enter Tryd.func47, Tryd.ntmps47
  go_wp2_with fail
  go_quiet (fail)
  go_wp2_with fail
  go_quiet (fail)
  go_wp2_with (go_at_call 64; refine (name14_any zq _ (by omega)).mono ?_; rintro e w3 ⟨rfl, h3⟩; rw [h3]; clear h3 w3; rw [HNM.out])
  go_quiet (fail)
  go_wp2_with fail
  go_ret3
  refine ⟨⟨rfl, rfl, rfl, Nat.le_refl _, fun _ _ _ => rfl⟩, ?_⟩
  rw [HST.out]
  rfl
set_option maxRecDepth 100000 in
set_option maxHeartbeats 1600000 in
/-- A label that stands already. -/
theorem labels_twice (B X : Nat) (vO vA vN vL : Value) (ls : Labs) (xs : List InsR) (size g off cap : Nat) (t0 : Tok) (ts : List Tok) (w : World)
    (hA : AsmAt w B X vO vA vN vL ls xs size) (hT : TokAt w g off (t0 :: ts)) (hcap : ts.length + 1 ≤ cap) (hcm : cap ≤ maxLen) (h0 : t0.1 ≠ []) (hgB : g < B) (hgX : g ≠ X) (hBw : B ≤ w.heap.size) (hls : ls.length ≤ 1048576) (hs : t0.1.getLast? = some 58) (hn : nameB t0.1.dropLast = true) (m : Nat) (hl : lookN ls t0.1.dropLast = some m) :
    Calls Tryd.prog 47 #[.pointer (some ⟨X, 0, none⟩), .slice (some ⟨g, off, none⟩) (ts.length + 1) cap] w (LabelsPost w B X vO vA vN ls xs size g t0 ts) := by
  obtain ⟨hu0, hu1⟩ := hT.head
  have hgl := hT.2.2.1
  have hlen : ts.length ≤ 1048577 := by have := hT.1; simp at this; omega
  have hzz : t0.1.length ≤ 1048576 := (hT.2.1 t0 List.mem_cons_self).1
  obtain ⟨q, hq⟩ : ∃ q : ByteArray, q = ⟨t0.1.toArray⟩ := ⟨_, rfl⟩
  have hqd : q.data.toList = t0.1 := by rw [hq]
  have hqz : q.size = t0.1.length := by rw [← hqd, Array.length_toList]; rfl
  have hq0 : 0 < q.size := by rw [hqz]; exact List.length_pos_iff.2 h0
  have hidx : q.size - 1 < q.size := by omega
  have hlb := last_byte q hidx
  rw [hqd] at hlb
  have hsx := suffix_last t0.1 _ hlb
  rw [← hq] at hu0
  have hqs : q.size ≤ 1048576 := by omega
  have hg0 : (((ts.length : Int) + 1) == 0) = false := by rw [beq_eq_false_iff_ne]; omega
  have hw1 : IntKind.i64.wrap ((q.size : Int) - 1) = (q.size : Int) - 1 := IntWalk.i64_in _ (by omega)
  have hix : ∀ wx, (Instr.index 9 (.string q) (.int .i64 ((q.size : Int) - 1))).run Tryd.prog wx = .ok (.int .u8 ((q[q.size - 1]'hidx).toNat : Int)) wx := fun wx => by
    rw [run_index_string wx 9 q .i64 _ Tryd.underlying9, dif_pos ⟨by omega, by omega⟩]
    congr 3
    simp only [show ((q.size : Int) - 1).toNat = q.size - 1 by omega]
  have hw3 : 0 ≤ (q.size : Int) - 1 := by omega
  have hw4 : 1 ≤ (q.size : Int) := by omega
  have hs2 : q[q.size - 1]'hidx = 58 := by rw [hs] at hlb; exact (Option.some.inj hlb).symm
  have hb58 : (((q[q.size - 1]'hidx).toNat : Int) != 58) = false := by rw [hs2]; rfl
  obtain ⟨zq, hnq⟩ : ∃ zq : ByteArray, zq = q.extract 0 (q.size - 1) := ⟨_, rfl⟩
  have hnd : zq.data.toList = t0.1.dropLast := by
    rw [hnq, ByteArray.data_extract, Array.toList_extract, List.extract_eq_take_drop, hqd, List.drop_zero, List.dropLast_eq_take, hqz]
    rfl
  have hnz : zq.size ≤ 1048576 := by rw [hnq, ByteArray.size_extract]; omega
  have hsl : ∀ wx, (Instr.slice 9 (.string q) none (some (.int .i64 ((q.size : Int) - 1))) none).run Tryd.prog wx = .ok (.string zq) wx := fun wx => by
    rw [run_slice_string_to_if wx 9 q .i64 _ Tryd.underlying9, if_pos ⟨by omega, by omega⟩, hnq]
    congr 3
    omega
  have htr : Lib.trimSuffix t0.1 [58] = zq.data.toList := by rw [hsx.2, if_pos hs2, hnd]
  have hsf : Lib.hasSuffix t0.1 [58] = true := by rw [hsx.1, hs2]; rfl
  have hst : labStage ls size t0 ts = .error (11, t0.2) := by
    unfold labStage
    rw [if_pos hsf, htr, hnd, if_pos hn, hl]
  have hlv : lookV ls zq.data.toList = m := by rw [lookV, hnd, hl]
  have hnm : nameB zq.data.toList = true := by rw [hnd]; exact hn
  have HNM := Lib.hid hnm
  have HLV := Lib.hid hlv
  have HST := Lib.hid hst
  have HA := Lib.hid hA
  have HT := Lib.hid hT
  clear hst hA hT hsx hlb hqd hqz hq hs h0 hs2 hn htr hsf hnd hnq hnm hl hlv
  go_enter Tryd.func47, Tryd.ntmps47
  go_wp2_with fail
  go_quiet (fail)
  go_wp2_with fail
  go_quiet (fail)
  go_wp2_with (first | (go_at_call 64; refine (name14_any zq _ (by omega)).mono ?_; rintro e w3 ⟨rfl, h3⟩; rw [h3]; clear h3 w3; rw [HNM.out]) | (go_at_call 29; refine (label_any14 B X vO vA vN vL ls xs size zq _ (by exact HA.out.heap rfl) (by omega)).mono ?_; rintro e w3 ⟨rfl, h3⟩; rw [h3]; clear h3 w3; rw [HLV.out]))
  go_quiet (fail)
  go_wp2_with fail
  go_ret3
  refine ⟨⟨rfl, rfl, rfl, Nat.le_refl _, fun _ _ _ => rfl⟩, ?_⟩
  rw [HST.out]
  rfl
set_option maxRecDepth 100000 in
set_option maxHeartbeats 1600000 in
/-- A new label. -/
theorem labels_new (B X : Nat) (vO vA vN vL : Value) (ls : Labs) (xs : List InsR) (size g off cap : Nat) (t0 : Tok) (ts : List Tok) (w : World)
    (hA : AsmAt w B X vO vA vN vL ls xs size) (hT : TokAt w g off (t0 :: ts)) (hcap : ts.length + 1 ≤ cap) (hcm : cap ≤ maxLen) (h0 : t0.1 ≠ []) (hgB : g < B) (hgX : g ≠ X) (hBw : B ≤ w.heap.size) (hls : ls.length ≤ 1048576) (hs : t0.1.getLast? = some 58) (hn : nameB t0.1.dropLast = true) (hl : lookN ls t0.1.dropLast = none) :
    Calls Tryd.prog 47 #[.pointer (some ⟨X, 0, none⟩), .slice (some ⟨g, off, none⟩) (ts.length + 1) cap] w (LabelsPost w B X vO vA vN ls xs size g t0 ts) := by
  obtain ⟨hu0, hu1⟩ := hT.head
  have hgl := hT.2.2.1
  have hlen : ts.length ≤ 1048577 := by have := hT.1; simp at this; omega
  have hzz : t0.1.length ≤ 1048576 := (hT.2.1 t0 List.mem_cons_self).1
  obtain ⟨q, hq⟩ : ∃ q : ByteArray, q = ⟨t0.1.toArray⟩ := ⟨_, rfl⟩
  have hqd : q.data.toList = t0.1 := by rw [hq]
  have hqz : q.size = t0.1.length := by rw [← hqd, Array.length_toList]; rfl
  have hq0 : 0 < q.size := by rw [hqz]; exact List.length_pos_iff.2 h0
  have hidx : q.size - 1 < q.size := by omega
  have hlb := last_byte q hidx
  rw [hqd] at hlb
  have hsx := suffix_last t0.1 _ hlb
  rw [← hq] at hu0
  have hqs : q.size ≤ 1048576 := by omega
  have hg0 : (((ts.length : Int) + 1) == 0) = false := by rw [beq_eq_false_iff_ne]; omega
  have hw1 : IntKind.i64.wrap ((q.size : Int) - 1) = (q.size : Int) - 1 := IntWalk.i64_in _ (by omega)
  have hix : ∀ wx, (Instr.index 9 (.string q) (.int .i64 ((q.size : Int) - 1))).run Tryd.prog wx = .ok (.int .u8 ((q[q.size - 1]'hidx).toNat : Int)) wx := fun wx => by
    rw [run_index_string wx 9 q .i64 _ Tryd.underlying9, dif_pos ⟨by omega, by omega⟩]
    congr 3
    simp only [show ((q.size : Int) - 1).toNat = q.size - 1 by omega]
  have hw3 : 0 ≤ (q.size : Int) - 1 := by omega
  have hw4 : 1 ≤ (q.size : Int) := by omega
  have hs2 : q[q.size - 1]'hidx = 58 := by rw [hs] at hlb; exact (Option.some.inj hlb).symm
  have hb58 : (((q[q.size - 1]'hidx).toNat : Int) != 58) = false := by rw [hs2]; rfl
  obtain ⟨zq, hnq⟩ : ∃ zq : ByteArray, zq = q.extract 0 (q.size - 1) := ⟨_, rfl⟩
  have hnd : zq.data.toList = t0.1.dropLast := by
    rw [hnq, ByteArray.data_extract, Array.toList_extract, List.extract_eq_take_drop, hqd, List.drop_zero, List.dropLast_eq_take, hqz]
    rfl
  have hnz : zq.size ≤ 1048576 := by rw [hnq, ByteArray.size_extract]; omega
  have hsl : ∀ wx, (Instr.slice 9 (.string q) none (some (.int .i64 ((q.size : Int) - 1))) none).run Tryd.prog wx = .ok (.string zq) wx := fun wx => by
    rw [run_slice_string_to_if wx 9 q .i64 _ Tryd.underlying9, if_pos ⟨by omega, by omega⟩, hnq]
    congr 3
    omega
  have htr : Lib.trimSuffix t0.1 [58] = zq.data.toList := by rw [hsx.2, if_pos hs2, hnd]
  have hsf : Lib.hasSuffix t0.1 [58] = true := by rw [hsx.1, hs2]; rfl
  have hst : labStage ls size t0 ts = .ok (ls ++ [(t0.1.dropLast, size)], ts) := by
    unfold labStage
    rw [if_pos hsf, htr, hnd, if_pos hn, hl]
  have hlv : lookV ls zq.data.toList = -1 := by rw [lookV, hnd, hl]
  have hnm : nameB zq.data.toList = true := by rw [hnd]; exact hn
  have hz2 : (⟨t0.1.dropLast.toArray⟩ : ByteArray) = zq := by rw [← hnd]
  have HZ2 := Lib.hid hz2
  have HNM := Lib.hid hnm
  have HLV := Lib.hid hlv
  have HST := Lib.hid hst
  have HA := Lib.hid hA
  have HT := Lib.hid hT
  have hXl := heap_lt hA.cells
  clear hst hA hT hsx hlb hqd hqz hq hs h0 hs2 hn htr hsf hnd hnq hnm hl hlv hz2
  obtain ⟨j0, hj, hy0, hy1, hy2⟩ := info_parts infoTok14
  go_enter Tryd.func47, Tryd.ntmps47
  go_wp2_with fail
  go_quiet (fail)
  go_wp2_with fail
  go_quiet (fail)
  go_upto_if 49 with (first | (go_at_call 64; refine (name14_any zq _ (by omega)).mono ?_; rintro e w3 ⟨rfl, h3⟩; rw [h3]; clear h3 w3; rw [HNM.out]) | (go_at_call 29; refine (label_any14 B X vO vA vN vL ls xs size zq _ (by exact HA.out.heap rfl) (by omega)).mono ?_; rintro e w3 ⟨rfl, h3⟩; rw [h3]; clear h3 w3; rw [HLV.out]))
  go_cut [7] (fun v7 wc => v7 = .string zq ∧ Hid (wc.heap = w.heap ∧ wc.os = w.os ∧ wc.tape = w.tape ∧ wc.output = w.output))
  case first =>
    go_wp2
    go_meet
    case rel => exact ⟨rfl, rfl, rfl, rfl, rfl⟩
  case rest =>
    obtain ⟨rfl, HW⟩ := hcut
    obtain ⟨W4, rfl⟩ : ∃ W4 : World, W4 = wc := ⟨_, rfl⟩
    have hA4 := HA.out.heap HW.out.1
    have hT4 : TokAt W4 g off (t0 :: ts) := HT.out.below (by rw [HW.out.1])
    have hO4 := hA4.labs
    have hC4 := hA4.cells
    have q3 := box_cell hC4 3
    have q4 := box_cell hC4 4
    have fq := box_free hC4 4
    simp at q3 q4
    have hXq := heap_lt hC4
    have hX5 := hA4.bX
    have hB4 : B ≤ W4.heap.size := by rw [HW.out.1]; exact hBw
    have hnX : some X ≠ vL.ownBlock := own_ne_box hO4 hC4 (by decide)
    have HA4 := Lib.hid hA4
    have HC4 := Lib.hid hC4
    clear hA4 hC4 hT4
    go_wp2_with fail
    go_region_law
      ((refine step_append_lies _ (by rfl) _ _ _ (by rfl) B 85 j0 _ 2 24 Tryd.underlying75 hj hy0 hy1 hy2 rfl (by omega) vL ls.length (cellsL ls) (by rfl) ((hO4.alloc _).drew) ⟨W4.heap.size, 0, none⟩ 1 1 [.string zq, .int .i64 size] (by rfl) (by rfl) (World.news_of_block (cs := #[.string zq, .int .i64 size]) (t := 85) (fr := (0, 0)) (heap_new W4 _)) (by simp [Value.oneCell']) (by omega) (by unfold maxLen; omega) (by omega) (by simp; omega) (W4.heap.size + 1) (by simp) ?_; intro gg capr w1 hown1 hgrow hat hlt; have hR5 := (hgrow.block X (by simp; omega) hnX).trans (heap_old _ HC4.out); have fz := box_free hR5 4; have cz : w1.cell? ⟨X, 4, none⟩ = some vL := (by rw [box_cell hR5 4]; rfl); have HR5 := Lib.hid hR5; clear hR5))
    all_goals
      obtain ⟨hk, hAf⟩ := HA4.out.label hB4 _ hgrow hown1 hat HZ2.out
      have HK := Lib.hid hk
      have HAF := Lib.hid hAf
      clear hk hAf hgrow hown1 hat hO4 hu0 hu1
      have hTf : TokAt (w1.setCell ⟨X, 4, none⟩ (.slice (some ⟨gg, 0, none⟩) (ls.length + 1) capr)) g off (t0 :: ts) := HT.out.below (by rw [HK.out.block g hgB hgX, HW.out.1])
      have HTF := Lib.hid hTf
      clear hTf
      by_cases hcp : cap = 1
      · have hts : ts = [] := List.length_eq_zero_iff.1 (by omega)
        go_wp2_with fail
        go_ret3
        refine ⟨⟨HK.out.os.trans HW.out.2.1, HK.out.tape.trans HW.out.2.2.1, HK.out.output.trans HW.out.2.2.2, by rw [← HW.out.1]; exact HK.out.size, fun k h1 h2 => by rw [HK.out.block k h1 h2, HW.out.1]⟩, ?_⟩
        rw [HST.out]
        exact ⟨off, cap - 1, _, by simp [hts, hcp], by omega, by omega, by subst hts; exact ⟨by simp, by simp, HTF.out.2.2.1, by simp⟩, HAF.out⟩
      · go_wp2_with fail
        go_ret3
        refine ⟨⟨HK.out.os.trans HW.out.2.1, HK.out.tape.trans HW.out.2.2.1, HK.out.output.trans HW.out.2.2.2, by rw [← HW.out.1]; exact HK.out.size, fun k h1 h2 => by rw [HK.out.block k h1 h2, HW.out.1]⟩, ?_⟩
        rw [HST.out]
        exact ⟨off + 2, cap - 1, _, rfl, by omega, by omega, HTF.out.tail, HAF.out⟩
/-- labels. -/
theorem labels_any (B X : Nat) (vO vA vN vL : Value) (ls : Labs) (xs : List InsR) (size g off cap : Nat) (t0 : Tok) (ts : List Tok) (w : World)
    (hA : AsmAt w B X vO vA vN vL ls xs size) (hT : TokAt w g off (t0 :: ts)) (hcap : ts.length + 1 ≤ cap) (hcm : cap ≤ maxLen) (h0 : t0.1 ≠ []) (hgB : g < B) (hgX : g ≠ X) (hBw : B ≤ w.heap.size) (hls : ls.length ≤ 1048576) :
    Calls Tryd.prog 47 #[.pointer (some ⟨X, 0, none⟩), .slice (some ⟨g, off, none⟩) (ts.length + 1) cap] w (LabelsPost w B X vO vA vN ls xs size g t0 ts) := by
  by_cases hs : t0.1.getLast? = some 58
  · cases hn : nameB t0.1.dropLast with
    | false => exact labels_text B X vO vA vN vL ls xs size g off cap t0 ts w hA hT hcap hcm h0 hgB hgX hBw hls hs hn
    | true =>
      cases hl : lookN ls t0.1.dropLast with
      | some m => exact labels_twice B X vO vA vN vL ls xs size g off cap t0 ts w hA hT hcap hcm h0 hgB hgX hBw hls hs hn m hl
      | none => exact labels_new B X vO vA vN vL ls xs size g off cap t0 ts w hA hT hcap hcm h0 hgB hgX hBw hls hs hn hl
  · exact labels_plain B X vO vA vN vL ls xs size g off cap t0 ts w hA hT hcap hcm h0 hgB hgX hBw hls hs
end Go.Proofs.YtbigllcononkbaaDoor
