/- The walk of the definition's line (layer 14). -/
import Derived.Test.YtbigllcononkbaaDoorR10
import Derived.Deep.DeepCutAuto
namespace Go.Proofs.YtbigllcononkbaaDoor
open Go Go.RowKit

theorem size_al (w : World) (o : Obj) : (w.alloc o).heap.size = w.heap.size + 1 := by show (w.heap.push o).size = _; simp
theorem KeptX.set {B X : Nat} {w w' : World} (h : KeptX B X w w') {a : Addr} (ha : B ≤ a.block) (v : Value) : KeptX B X w (w'.setCell a v) :=
  ⟨h.os, h.tape, h.output, by have := h.size; simpa [World.setCell] using this, fun k h1 h2 => by
    rw [Below.heap_setCell _ _ _ _ (by omega)]
    exact h.block k h1 h2⟩
theorem AsmAt.upto {w w' : World} {B X : Nat} {vO vA vN vL : Value} {ls : Labs} {xs : List InsR} {size : Nat} (h : AsmAt w B X vO vA vN vL ls xs size) (hk : ∀ k, k < w.heap.size → w'.heap[k]? = w.heap[k]?) : AsmAt w' B X vO vA vN vL ls xs size where
  bX := h.bX
  cells := by rw [hk X (heap_lt h.cells)]; exact h.cells
  ops := own_same h.ops fun g hg => hk g (own_lt h.ops hg).1
  ats := own_same h.ats fun g hg => hk g (own_lt h.ats hg).1
  names := own_same h.names fun g hg => hk g (own_lt h.names hg).1
  labs := own_same h.labs fun g hg => hk g (own_lt h.labs hg).1
  ne := h.ne
  few := h.few
theorem opRes_ok {c : Nat} {t0 : Tok} {ts : List Tok} {x : Int × Tok} (h : opRes c t0 ts = .ok x) : ts.tail.length + 1 = ts.length ∧ ∀ t r, ts.tail = t :: r → (t0 :: ts)[2]? = some t := by
  cases ts with
  | nil => simp only [opRes] at h; cases h
  | cons t1 ts => exact ⟨rfl, fun t r e => by simp only [List.tail_cons] at e; rw [e]; rfl⟩
theorem infoInt : (Tryd.prog.info? 3).map (fun i => (i.zero, i.size, i.bytes)) = some (some (.int .i64 0), 1, 8) := by kernel_rfl
/-- What line leaves. -/
def Line14Post (w : World) (B X : Nat) (ls : Labs) (xs : List InsR) (size : Nat) (ts : List Tok) (e : Ending) (w' : World) : Prop :=
  KeptX B X w w' ∧
  match lineF codeOf ls size ts with
  | .error (n, a) => e = .returned (.tuple #[.int .i64 n, .int .i64 a])
  | .ok (ls', none) => e = .returned (.tuple #[.int .i64 0, .int .i64 0]) ∧ ∃ vO vA vN vL, AsmAt w' B X vO vA vN vL ls' xs size
  | .ok (ls', some i) => e = .returned (.tuple #[.int .i64 0, .int .i64 0]) ∧ ∃ vO vA vN vL, AsmAt w' B X vO vA vN vL ls' (xs ++ [i]) (size + (1 + widthN (shapeN i.c)))
theorem labStage_err {ls : Labs} {size : Nat} {t0 : Tok} {ts : List Tok} {n a : Int} (h : labStage ls size t0 ts = .error (n, a)) : n ≠ 0 := by
  unfold labStage at h
  split at h
  · split at h
    · split at h
      · cases h; decide
      · cases h
    · cases h; decide
  · cases h
theorem operF_err {c : Nat} {t : Tok} {n a : Int} (h : operF c t = .error (n, a)) : n ≠ 0 := by
  unfold operF at h
  split at h
  · split at h
    · cases h
    · cases h; decide
  · split at h
    · cases h
    · cases h; decide
theorem opRes_err {c : Nat} {t0 : Tok} {ts : List Tok} {n a : Int} (h : opRes c t0 ts = .error (n, a)) : n ≠ 0 := by
  cases ts with
  | nil => simp only [opRes] at h; cases h; decide
  | cons t1 ts => exact operF_err h
theorem opStage_res {c : Nat} (hw : 0 < widthN (shapeN c)) (t0 : Tok) (ts : List Tok) : opStage c t0 ts = (match opRes c t0 ts with | .error x => .error x | .ok x => .ok (x, ts.tail)) := by
  unfold opStage
  rw [if_pos hw]
  cases ts with
  | nil => rfl
  | cons t1 ts => simp only [opRes]; cases operF c t1 <;> rfl
set_option maxRecDepth 100000 in
set_option maxHeartbeats 1600000 in
/-- A line without tokens. -/
theorem line14_nil (B X : Nat) (vO vA vN vL : Value) (ls : Labs) (xs : List InsR) (size : Nat) (A : Option Addr) (cap : Nat) (w : World) (hA : AsmAt w B X vO vA vN vL ls xs size) :
    Calls Tryd.prog 47 #[.pointer (some ⟨X, 0, none⟩), .slice A 0 cap] w fun e w' => e = .returned (.tuple #[.slice A 0 cap, .int .i64 0, .int .i64 0]) ∧ ∃ n, w' = w.drewN n := by
  clear hA
  go_enter Tryd.func47, Tryd.ntmps47
  go_wp2_with fail
  go_quiet (fail)
  go_wp2_with fail
  go_ret3
  exact ⟨rfl, _, rfl⟩
set_option maxRecDepth 100000 in
set_option maxHeartbeats 1600000 in
theorem line14_empty (B X : Nat) (vO vA vN vL : Value) (ls : Labs) (xs : List InsR) (size : Nat) (A : Option Addr) (cap : Nat) (w : World) (hA : AsmAt w B X vO vA vN vL ls xs size) :
    Calls Tryd.prog 28 #[.pointer (some ⟨X, 0, none⟩), .slice A 0 cap] w (Line14Post w B X ls xs size []) := by
  have HA := Lib.hid hA
  clear hA
  go_enter Tryd.func28, Tryd.ntmps28
  go_wp2_with (go_at_call 47; refine (line14_nil B X vO vA vN vL ls xs size A cap _ HA.out).mono ?_; rintro e w3 ⟨rfl, n, rfl⟩)
  go_ret2
  exact ⟨⟨rfl, rfl, rfl, Nat.le_refl _, fun _ _ _ => rfl⟩, rfl, vO, vA, vN, vL, HA.out.heap rfl⟩
/-- What is known at the test behind an operand. -/
structure Mid14 (w1 wd : World) (B X : Nat) (vO vA vN vL : Value) (ls : Labs) (xs : List InsR) (size g off c k O Nb : Nat) (t1 : Tok) (ts rest : List Tok) (o : Int) (nm : Tok) : Prop where
  stage : opStage c t1 ts = .ok ((o, nm), rest)
  cnt : k + rest.length = ts.length + 1
  nth : ∀ t r, rest = t :: r → (t1 :: ts)[k]? = some t
  oc : wd.heap[O]? = some (.cells #[.int .i64 c, .int .i64 o] 35 (0, 0))
  nc : wd.heap[Nb]? = some (.cells #[.string ⟨nm.1.toArray⟩, .int .i64 nm.2] 85 (0, 0))
  reader : AsmAt wd B X vO vA vN vL ls xs size
  toks : TokAt wd g off (t1 :: ts)
  kept : KeptX B X w1 wd
  apO : some O ≠ vO.ownBlock
  apN : some Nb ≠ vN.ownBlock
  ne : O ≠ X ∧ Nb ≠ X ∧ O ≠ Nb
theorem AsmAt.apart {w : World} {B X : Nat} {vO vA vN vL : Value} {ls : Labs} {xs : List InsR} {size : Nat} (h : AsmAt w B X vO vA vN vL ls xs size) (k : Nat) (hk : w.heap.size ≤ k) : some k ≠ vO.ownBlock ∧ some k ≠ vN.ownBlock ∧ k ≠ X :=
  ⟨fun e => by have := (own_lt h.ops e.symm).1; omega, fun e => by have := (own_lt h.names e.symm).1; omega, by have := heap_lt h.cells; omega⟩
set_option maxRecDepth 100000 in
set_option maxHeartbeats 3200000 in
theorem line14_some (B X : Nat) (vO vA vN vL : Value) (ls : Labs) (xs : List InsR) (size g off cap : Nat) (t0 : Tok) (ts0 : List Tok) (w : World)
    (hA : AsmAt w B X vO vA vN vL ls xs size) (hT : TokAt w g off (t0 :: ts0)) (hcap : ts0.length + 1 ≤ cap) (hcm : cap ≤ maxLen) (h0 : t0.1 ≠ []) (hgB : g < B) (hgX : g ≠ X) (hBw : B ≤ w.heap.size) (hls : ls.length ≤ 1048576) :
    Calls Tryd.prog 28 #[.pointer (some ⟨X, 0, none⟩), .slice (some ⟨g, off, none⟩) (ts0.length + 1) cap] w (Line14Post w B X ls xs size (t0 :: ts0)) := by
  have HLB := Lib.hid (labels_any B X vO vA vN vL ls xs size g off cap t0 ts0 w hA hT hcap hcm h0 hgB hgX hBw hls)
  clear hA hT h0
  cases hst : labStage ls size t0 ts0 with
  | error x =>
    obtain ⟨n, a⟩ := x
    have hn := labStage_err hst
    have hn2 : (n == 0) = false := by simpa using hn
    have hn3 : (n != 0) = true := by simpa using hn
    have hp : lineF codeOf ls size (t0 :: ts0) = .error (n, a) := by simp only [lineF, hst]
    have HP := Lib.hid hp
    have HST := Lib.hid hst
    clear hst hp hn
    go_enter Tryd.func28, Tryd.ntmps28
    go_wp2_with (go_at_call 47; refine HLB.out.mono ?_; rintro e w1 ⟨hk, he⟩; rw [HST.out] at he; obtain rfl := he)
    go_ret2
    exact ⟨hk, by rw [HP.out]; rfl⟩
  | ok x =>
    obtain ⟨ls', l⟩ := x
    cases l with
    | nil =>
      have hp : lineF codeOf ls size (t0 :: ts0) = .ok (ls', none) := by simp only [lineF, hst]
      have HP := Lib.hid hp
      have HST := Lib.hid hst
      clear hst hp
      go_enter Tryd.func28, Tryd.ntmps28
      go_wp2_with (go_at_call 47; refine HLB.out.mono ?_; rintro e w1 ⟨hk, he⟩; rw [HST.out] at he; obtain ⟨off1, cap1, vL1, rfl, hc1, hm1, hT1, hA1⟩ := he; simp only [List.length_nil])
      go_ret2
      exact ⟨hk, by rw [HP.out]; exact ⟨rfl, vO, vA, vN, vL1, hA1⟩⟩
    | cons t1 ts =>
      have HST := Lib.hid hst
      clear hst
      go_enter Tryd.func28, Tryd.ntmps28
      go_upto_if 26 with (go_at_call 47; refine HLB.out.mono ?_; rintro e w1 ⟨hk, he⟩; rw [HST.out] at he; obtain ⟨off1, cap1, vL1, rfl, hc1, hm1, hT1, hA1⟩ := he; simp only [List.length_cons])
      obtain ⟨hu0, hu1⟩ := hT1.head
      have hgl := hT1.2.2.1
      have hlen : ts.length ≤ 1048577 := by have := hT1.1; simp at this; omega
      have hzz : t1.1.length ≤ 1048576 := (hT1.2.1 t1 List.mem_cons_self).1
      obtain ⟨q, hq⟩ : ∃ q : ByteArray, q = ⟨t1.1.toArray⟩ := ⟨_, rfl⟩
      have hqd : q.data.toList = t1.1 := by rw [hq]
      have hqs : q.size ≤ 1048576 := by rw [hq]; show (List.toArray _).size ≤ _; simpa using hzz
      rw [← hq] at hu0
      have HK := Lib.hid hk
      have HT1 := Lib.hid hT1
      have HA1 := Lib.hid hA1
      have HQ := Lib.hid hq
      have hB1 : B ≤ w1.heap.size := Nat.le_trans hBw hk.size
      clear hk hT1 hA1 hq
      have hg0 : (((ts.length : Int) + 1) == 0) = false := by rw [beq_eq_false_iff_ne]; omega
      cases hc : codeOf t1.1 with
      | none =>
        have hp : lineF codeOf ls size (t0 :: ts0) = .error (9, t1.2) := by simp only [lineF, HST.out, insF, hc]
        have HP := Lib.hid hp
        have hcv : codeV q.data.toList = -1 := by rw [codeV, hqd, hc]
        have HCV := Lib.hid hcv
        clear hp hcv hqd hc
        go_upto_if 35 with (go_at_call 48; refine (code14_any q _ hqs).mono ?_; rintro e w2 ⟨rfl, hb2⟩; rw [HCV.out])
        have hv1 : w2.cell? ⟨g, off1 + 1, none⟩ = some (.int .i64 t1.2) := by rw [hb2.cell hgl]; exact hu1
        have hgl2 : g < w2.heap.size := Nat.lt_of_lt_of_le hgl hb2.size
        have HB2 := Lib.hid hb2
        clear hu0 hu1 hb2
        go_wp2_with fail
        go_quiet (fail)
        go_wp2_with fail
        go_ret2
        exact ⟨HK.out.trans (((KeptX.of_below HB2.out hB1)).trans ⟨rfl, rfl, rfl, Nat.le_refl _, fun _ _ _ => rfl⟩), by rw [HP.out]; rfl⟩
      | some c =>
        have hc41 := codeOf_lt _ _ hc
        have hcv : codeV q.data.toList = c := by rw [codeV, hqd, hc]
        have HCV := Lib.hid hcv
        have HC := Lib.hid hc
        have HW := Lib.hid (w13_eq c hc41)
        clear hcv hqd hc
        go_upto_if 35 with (go_at_call 48; refine (code14_any q _ hqs).mono ?_; rintro e w2 ⟨rfl, hb2⟩; rw [HCV.out])
        have hT2 : TokAt w2 g off1 (t1 :: ts) := HT1.out.below (hb2.block g hgl)
        have hA2 := HA1.out.below hb2
        have hB2 : B ≤ w2.heap.size := Nat.le_trans hB1 hb2.size
        have HKB := Lib.hid (KeptX.of_below (X := X) hb2 hB1)
        have hgl2 : g < w2.heap.size := Nat.lt_of_lt_of_le hgl hb2.size
        have HT2 := Lib.hid hT2
        have HA2 := Lib.hid hA2
        clear hu0 hu1 hb2 hT2 hA2
        go_upto_if 45 with (go_at_call 37; refine (width13_any _ _).mono ?_; rintro e w3 ⟨rfl, h3⟩; rw [h3]; clear h3 w3; rw [HW.out])
        have hoa := heap_new w2 (.cells #[.int .i64 c, .int .i64 0] 35)
        have hoa2 := heap_old (.cells #[.string ⟨#[]⟩, .int .i64 0] 85) hoa
        have hna := heap_new (w2.alloc (.cells #[.int .i64 c, .int .i64 0] 35)) (.cells #[.string ⟨#[]⟩, .int .i64 0] 85)
        have hbW : Below w2.heap.size w2 ((w2.alloc (.cells #[.int .i64 c, .int .i64 0] 35)).alloc (.cells #[.string ⟨#[]⟩, .int .i64 0] 85)) := ((Below.refl _ _).alloc (Nat.le_refl _) _).alloc (by simp) _
        obtain ⟨O, hO⟩ : ∃ O, w2.heap.size = O := ⟨_, rfl⟩
        rw [size_al, hO] at hna
        rw [hO] at hoa2 ⊢
        obtain ⟨ap1, _, ap3⟩ := HA2.out.apart O (by omega)
        obtain ⟨_, ap2, ap4⟩ := HA2.out.apart (O + 1) (by omega)
        have hTW := HT2.out.below (hbW.block g hgl2)
        have hAW := HA2.out.below hbW
        have hKW := HKB.out.trans (KeptX.of_below (X := X) hbW hB2)
        have hBW : B ≤ ((w2.alloc (.cells #[.int .i64 c, .int .i64 0] 35)).alloc (.cells #[.string ⟨#[]⟩, .int .i64 0] 85)).heap.size := by simp; omega
        have hsW : ((w2.alloc (.cells #[.int .i64 c, .int .i64 0] 35)).alloc (.cells #[.string ⟨#[]⟩, .int .i64 0] 85)).heap.size = O + 1 + 1 := by simp [hO]
        generalize (w2.alloc (.cells #[.int .i64 c, .int .i64 0] 35)).alloc (.cells #[.string ⟨#[]⟩, .int .i64 0] 85) = W at *
        have HOA := Lib.hid hoa2
        have HNA := Lib.hid hna
        have HAP := Lib.hid (show some O ≠ vO.ownBlock ∧ some (O + 1) ≠ vN.ownBlock ∧ O ≠ X ∧ O + 1 ≠ X from ⟨ap1, ap2, ap3, ap4⟩)
        have HTW := Lib.hid hTW
        have HAW := Lib.hid hAW
        have HKW := Lib.hid hKW
        have HSW := Lib.hid hsW
        have hBO : B ≤ O := by omega
        have HOE := Lib.hid hO
        have HBW := Lib.hid hbW
        clear hoa hoa2 hna hbW hO ap1 ap2 ap3 ap4 hTW hAW hKW hsW HKB
        go_cut [10, 11, 12] (fun v10 v11 v12 wc => v11 = .pointer (some ⟨O, 0, none⟩) ∧ v12 = .pointer (some ⟨O + 1, 0, none⟩) ∧ ∃ (k : Nat) (rest : List Tok) (o : Int) (nm : Tok), v10 = .int .i64 k ∧ k ≤ 2 ∧ 1 ≤ k ∧ Hid (Mid14 w1 wc B X vO vA vN vL1 ls' xs size g off1 c k O (O + 1) t1 ts rest o nm))
        case first =>
          by_cases hw : 0 < widthN (shapeN c)
          · have hwi : 0 < (widthN (shapeN c) : Int) := by omega
            have HST2 := Lib.hid (opStage_res hw t1 ts)
            cases hr : opRes c t1 ts with
            | error x =>
              obtain ⟨n, a⟩ := x
              have hn := opRes_err hr
              have hn2 : (n == 0) = false := by simpa using hn
              have hn3 : (n != 0) = true := by simpa using hn
              have hp : lineF codeOf ls size (t0 :: ts0) = .error (n, a) := by simp only [lineF, HST.out, insF, HC.out, HST2.out, hr]
              have HP := Lib.hid hp
              have HR := Lib.hid hr
              clear hp hr hn
              go_wp2_with (go_at_call 49; refine (oper14_any c g off1 cap1 t1 ts _ HTW.out hc41 hw).mono ?_; rw [HR.out]; rintro e w3 ⟨rfl, hb3⟩; unfold operV; have ho3 := (hb3.block O (by have := HSW.out; omega)).trans HOA.out; have hn3' := (hb3.block (O + 1) (by have := HSW.out; omega)).trans HNA.out; have co1 := box_cell ho3 1; have fo1 := box_free ho3 1; have cn0 := box_cell hn3' 0; have fn0 := box_free hn3' 0; have cn1 := box_cell hn3' 1; have fn1 := box_free hn3' 1; simp at co1 cn0 cn1; have hl1 := heap_lt ho3; have hl2 := heap_lt hn3'; have HO3 := Lib.hid ho3; have HN3 := Lib.hid hn3'; have HB3 := Lib.hid hb3; clear ho3 hn3' hb3)
              go_ret2
              exact ⟨HK.out.trans ((HKW.out.trans (KeptX.of_below HB3.out hBW)).set (by simp only; omega) _ |>.set (by simp only; omega) _ |>.set (by simp only; omega) _), by rw [HP.out]; rfl⟩
            | ok x =>
              obtain ⟨o, nm⟩ := x
              obtain ⟨hts, hnth⟩ := opRes_ok hr
              have hst3 : opStage c t1 ts = .ok ((o, nm), ts.tail) := by rw [HST2.out, hr]
              have HS3 := Lib.hid hst3
              have HTS := Lib.hid hts
              have HNTH := Lib.hid hnth
              have HR := Lib.hid hr
              clear hr hts hnth hst3
              go_wp2_with (go_at_call 49; refine (oper14_any c g off1 cap1 t1 ts _ HTW.out hc41 hw).mono ?_; rw [HR.out]; rintro e w3 ⟨rfl, hb3⟩; unfold operV; have ho3 := (hb3.block O (by have := HSW.out; omega)).trans HOA.out; have hn3' := (hb3.block (O + 1) (by have := HSW.out; omega)).trans HNA.out; have co1 := box_cell ho3 1; have fo1 := box_free ho3 1; have cn0 := box_cell hn3' 0; have fn0 := box_free hn3' 0; have cn1 := box_cell hn3' 1; have fn1 := box_free hn3' 1; simp at co1 cn0 cn1; have hl1 := heap_lt ho3; have hl2 := heap_lt hn3'; have HO3 := Lib.hid ho3; have HN3 := Lib.hid hn3'; have HB3 := Lib.hid hb3; clear ho3 hn3' hb3)
              go_meet
              case rel =>
                have hz3 := HB3.out.size
                have hzW := HSW.out
                have hkeep : ∀ k, k < w2.heap.size → (((w3.setCell ⟨O, 1, none⟩ (.int .i64 o)).setCell ⟨O + 1, 0, none⟩ (.string ⟨nm.1.toArray⟩)).setCell ⟨O + 1, 1, none⟩ (.int .i64 nm.2)).heap[k]? = w2.heap[k]? := fun k hk => by
                  have := HOE.out
                  rw [Below.heap_setCell _ _ _ _ (by simp only; omega), Below.heap_setCell _ _ _ _ (by simp only; omega), Below.heap_setCell _ _ _ _ (by simp only; omega), HB3.out.block k (by omega), HBW.out.block k hk]
                refine ⟨rfl, rfl, 2, ts.tail, o, nm, rfl, by omega, by omega, ⟨HS3.out, by have := HTS.out; omega, HNTH.out, ?_, ?_, HA2.out.upto hkeep, HT2.out.below (hkeep g hgl2), ?_, HAP.out.1, HAP.out.2.1, HAP.out.2.2.1, HAP.out.2.2.2, by omega⟩⟩
                · rw [Below.heap_setCell _ _ _ _ (by simp only; omega), Below.heap_setCell _ _ _ _ (by simp only; omega), set_heap HO3.out 1]
                  rfl
                · rw [set_heap (set_heap ((Below.heap_setCell _ _ _ _ (by simp only; omega)).trans HN3.out) 0 _) 1]
                  rfl
                · exact (((HKW.out.trans (KeptX.of_below HB3.out hBW)).set (by simp only; omega) _).set (by simp only; omega) _).set (by simp only; omega) _
          · have hwi : (widthN (shapeN c) : Int) ≤ 0 := by omega
            go_wp2
            go_meet
            case rel => exact ⟨rfl, rfl, 1, ts, 0, ([], 0), rfl, by omega, by omega, ⟨by unfold opStage; rw [if_neg hw], by omega, fun t r h => by rw [h]; rfl, HOA.out, HNA.out, HAW.out, HTW.out, HKW.out, HAP.out.1, HAP.out.2.1, HAP.out.2.2.1, HAP.out.2.2.2, by omega⟩⟩
        case rest =>
          obtain ⟨rfl, rfl, k, rest, o, nm, rfl, hk2, hk1, HM⟩ := hcut
          obtain ⟨wd, rfl⟩ : ∃ wd : World, wd = wc := ⟨_, rfl⟩
          have hcnt := HM.out.cnt
          obtain ⟨hv0, hv1⟩ := HM.out.toks.head
          have hgl3 := HM.out.toks.2.2.1
          have c3 := box_cell HM.out.reader.cells 3
          simp at c3
          have hXl := heap_lt HM.out.reader.cells
          have hw9 : widthN (shapeN c) ≤ 8 := by have := widthN_cases (shapeN c); omega
          have hfew := HM.out.reader.few
          cases rest with
          | cons t2 r =>
            have hp : lineF codeOf ls size (t0 :: ts0) = .error (9, t2.2) := by simp only [lineF, HST.out, insF, HC.out, HM.out.stage]
            have HP := Lib.hid hp
            have hnt := HM.out.nth t2 r rfl
            have htk := HM.out.toks.2.2.2 k t2 hnt
            obtain ⟨_, htk1⟩ := htk
            simp only [List.length_cons] at hcnt
            have hkl : (k : Int) < (ts.length : Int) + 1 := by omega
            have hkl2 : k < ts.length + 1 := by omega
            clear hp hnt c3 hcnt
            go_wp2_with fail
            go_quiet (fail)
            go_wp2_with fail
            go_ret2
            exact ⟨HK.out.trans (HM.out.kept.trans ⟨rfl, rfl, rfl, Nat.le_refl _, fun _ _ _ => rfl⟩), by rw [HP.out]; rfl⟩
          | nil =>
            simp only [List.length_nil] at hcnt
            have hp : lineF codeOf ls size (t0 :: ts0) = if 512 < size + (1 + widthN (shapeN c)) then .error (2, t1.2) else .ok (ls', some ⟨c, o, size, nm.1, nm.2⟩) := by
              simp only [lineF, HST.out, insF, HC.out, HM.out.stage]
              by_cases h : 512 < size + (1 + widthN (shapeN c))
              · simp only [if_pos h]
              · simp only [if_neg h]
            have HP := Lib.hid hp
            clear hp
            obtain ⟨W9, hW9⟩ : ∃ W9 : Nat, widthN (shapeN c) = W9 := ⟨_, rfl⟩
            have HW9 := Lib.hid hW9
            rw [hW9] at hw9 ⊢
            clear hW9
            by_cases hfull : 512 < size + (1 + W9)
            · go_wp2_with fail
              go_quiet (fail)
              go_wp2_with fail
              go_ret2
              exact ⟨HK.out.trans (HM.out.kept.trans ⟨rfl, rfl, rfl, Nat.le_refl _, fun _ _ _ => rfl⟩), by rw [HP.out, if_pos (by rw [HW9.out]; exact hfull)]; rfl⟩
            · obtain ⟨i0, hi, hz0, hz1, hz2⟩ := info_parts infoOp
              obtain ⟨n0, hn, hy0, hy1, hy2⟩ := info_parts infoInt
              obtain ⟨j0, hj, hx0, hx1, hx2⟩ := info_parts infoTok14
              go_upto_region 20 with fail
              have hBd : B ≤ wd.heap.size := Nat.le_trans hB1 HM.out.kept.size
              have hG := HM.out.reader.g
              have HG := Lib.hid hG
              have hO4 := hG.ops
              have hnX : some X ≠ vO.ownBlock := own_ne_box hO4 hG.cells (by decide)
              have hnN : some (O + 1) ≠ vO.ownBlock := own_ne_box hO4 HM.out.nc (by decide)
              have q0 := box_cell hG.cells 0
              have y0 := box_cell HM.out.oc 0
              have y1 := box_cell HM.out.oc 1
              simp at q0 y0 y1
              have hOl := heap_lt HM.out.oc
              have hNl := heap_lt HM.out.nc
              have hXB := hG.bX
              clear hG c3 hv0 hv1
              go_cut [12] (fun v12 wc => v12 = .pointer (some ⟨O + 1, 0, none⟩) ∧ Hid (∃ vO', AsmG wc B X vO' vA vN vL1 ls' (xs ++ [⟨c, o, size, nm.1, nm.2⟩]) xs xs size ∧ wc.heap[O + 1]? = some (.cells #[.string ⟨nm.1.toArray⟩, .int .i64 nm.2] 85 (0, 0)) ∧ KeptX B X wd wc))
              case first =>
                go_region_law
                  ((refine step_append_lies _ (by rfl) _ _ _ (by rfl) B 35 i0 _ 2 16 Tryd.underlying25 hi hz0 hz1 hz2 rfl (by omega) vO xs.length (cellsO xs) (by rfl) ((hO4.alloc _).drew) ⟨wd.heap.size, 0, none⟩ 1 1 [.int .i64 c, .int .i64 o] (by rfl) (by rfl) (World.news_of_block (cs := #[.int .i64 c, .int .i64 o]) (t := 35) (fr := (0, 0)) (heap_new wd _)) (by simp [Value.oneCell']) (by omega) (by unfold maxLen; omega) (by omega) (by simp; omega) (wd.heap.size + 1) (by simp) ?_; intro gg capr w3 hown1 hgrow hat hlt; have hR5 := (hgrow.block X (by simp; omega) hnX).trans (heap_old _ HG.out.cells); have fz := box_free hR5 0; have cz : w3.cell? ⟨X, 0, none⟩ = some vO := (by rw [box_cell hR5 0]; rfl); have HR5 := Lib.hid hR5; clear hR5))
                all_goals
                  have hgr := grew_of _ hgrow
                  have HGR := Lib.hid hgr
                  have HOW := Lib.hid hown1
                  clear hgr hown1 hgrow hat hlt fz cz
                  go_wp2_with fail
                  go_meet
                  case rel => exact ⟨rfl, _, HG.out.addOp (x := ⟨c, o, size, nm.1, nm.2⟩) HGR.out HOW.out, by rw [Below.heap_setCell _ _ _ _ HM.out.ne.2.1, HGR.out.block _ hNl hnN]; exact HM.out.nc, HGR.out.keptX (fun g hg => (own_lt HG.out.ops hg).2) hBd 0 _⟩
              case rest =>
                obtain ⟨rfl, HQ1⟩ := hcut
                obtain ⟨wa, rfl⟩ : ∃ wa : World, wa = wc := ⟨_, rfl⟩
                obtain ⟨vO', hG1, hN1, hK1⟩ := HQ1.out
                have HG1 := Lib.hid hG1
                have HN1 := Lib.hid hN1
                have HK1 := Lib.hid hK1
                have hBa : B ≤ wa.heap.size := Nat.le_trans hBd hK1.size
                have hO4 := hG1.ats
                have hnX : some X ≠ vA.ownBlock := own_ne_box hO4 hG1.cells (by decide)
                have hnN : some (O + 1) ≠ vA.ownBlock := own_ne_box hO4 hN1 (by decide)
                have q1 := box_cell hG1.cells 1
                have q3 := box_cell hG1.cells 3
                simp at q1 q3
                have hXl1 := heap_lt hG1.cells
                have hNl1 := heap_lt hN1
                clear hG1 hN1 hK1 HQ1 q0 y0 y1
                go_upto_region 21 with fail
                go_cut [12] (fun v12 wc => v12 = .pointer (some ⟨O + 1, 0, none⟩) ∧ Hid (∃ vA', AsmG wc B X vO' vA' vN vL1 ls' (xs ++ [⟨c, o, size, nm.1, nm.2⟩]) (xs ++ [⟨c, o, size, nm.1, nm.2⟩]) xs size ∧ wc.heap[O + 1]? = some (.cells #[.string ⟨nm.1.toArray⟩, .int .i64 nm.2] 85 (0, 0)) ∧ KeptX B X wa wc))
                case first =>
                  go_region_law
                    ((refine step_append_lies _ (by rfl) _ _ _ (by rfl) B 3 n0 _ 1 8 Tryd.underlying74 hn hy0 hy1 hy2 rfl (by omega) vA xs.length (cellsP xs) (by rfl) ((hO4.alloc _).drew) ⟨wa.heap.size, 0, none⟩ 1 1 [.int .i64 size] (by rfl) (by rfl) (World.news_of_block (cs := #[.int .i64 size]) (t := 3) (fr := (0, 0)) (heap_new wa _)) (by simp [Value.oneCell']) (by omega) (by unfold maxLen; omega) (by omega) (by simp; omega) (wa.heap.size + 1) (by simp) ?_; intro gg capr w3 hown1 hgrow hat hlt; have hR5 := (hgrow.block X (by simp; omega) hnX).trans (heap_old _ HG1.out.cells); have fz := box_free hR5 1; have cz : w3.cell? ⟨X, 1, none⟩ = some vA := (by rw [box_cell hR5 1]; rfl); have HR5 := Lib.hid hR5; clear hR5))
                  all_goals
                    have hgr := grew_of _ hgrow
                    have HGR := Lib.hid hgr
                    have HOW := Lib.hid hown1
                    clear hgr hown1 hgrow hat hlt fz cz
                    go_wp2_with fail
                    go_meet
                    case rel => exact ⟨rfl, _, HG1.out.addAt (x := ⟨c, o, size, nm.1, nm.2⟩) HGR.out HOW.out, by rw [Below.heap_setCell _ _ _ _ HM.out.ne.2.1, HGR.out.block _ hNl1 hnN]; exact HN1.out, HGR.out.keptX (fun g hg => (own_lt HG1.out.ats hg).2) hBa 1 _⟩
                case rest =>
                  obtain ⟨rfl, HQ1⟩ := hcut
                  obtain ⟨wb, rfl⟩ : ∃ wb : World, wb = wc := ⟨_, rfl⟩
                  obtain ⟨vA', hG2, hN2, hK2⟩ := HQ1.out
                  have HG2 := Lib.hid hG2
                  have HN2 := Lib.hid hN2
                  have HK2 := Lib.hid hK2
                  have hBb : B ≤ wb.heap.size := Nat.le_trans hBa hK2.size
                  have hO5 := hG2.names
                  have hnX5 : some X ≠ vN.ownBlock := own_ne_box hO5 hG2.cells (by decide)
                  have q2 := box_cell hG2.cells 2
                  have y0 := box_cell hN2 0
                  have y1 := box_cell hN2 1
                  simp at q2 y0 y1
                  have hXl2 := heap_lt hG2.cells
                  have hNl2 := heap_lt hN2
                  clear hG2 hN2 hK2 HQ1 q1 q3
                  go_upto_region 22 with fail
                  go_cut [12] (fun v12 wc => v12 = .pointer (some ⟨O + 1, 0, none⟩) ∧ Hid (∃ vN', AsmG wc B X vO' vA' vN' vL1 ls' (xs ++ [⟨c, o, size, nm.1, nm.2⟩]) (xs ++ [⟨c, o, size, nm.1, nm.2⟩]) (xs ++ [⟨c, o, size, nm.1, nm.2⟩]) size ∧ KeptX B X wb wc))
                  case first =>
                    go_region_law
                      ((refine step_append_lies _ (by rfl) _ _ _ (by rfl) B 85 j0 _ 2 24 Tryd.underlying75 hj hx0 hx1 hx2 rfl (by omega) vN xs.length (cellsN xs) (by rfl) ((hO5.alloc _).drew) ⟨wb.heap.size, 0, none⟩ 1 1 [.string ⟨nm.1.toArray⟩, .int .i64 nm.2] (by rfl) (by rfl) (World.news_of_block (cs := #[.string ⟨nm.1.toArray⟩, .int .i64 nm.2]) (t := 85) (fr := (0, 0)) (heap_new wb _)) (by simp [Value.oneCell']) (by omega) (by unfold maxLen; omega) (by omega) (by simp; omega) (wb.heap.size + 1) (by simp) ?_; intro gg capr w3 hown1 hgrow hat hlt; have hR5 := (hgrow.block X (by simp; omega) hnX5).trans (heap_old _ HG2.out.cells); have fz := box_free hR5 2; have cz : w3.cell? ⟨X, 2, none⟩ = some vN := (by rw [box_cell hR5 2]; rfl); have HR5 := Lib.hid hR5; clear hR5))
                    all_goals
                      have hgr := grew_of _ hgrow
                      have HGR := Lib.hid hgr
                      have HOW := Lib.hid hown1
                      have HAT := Lib.hid hat
                      clear hgr hown1 hgrow hat hlt fz cz
                      go_wp2_with fail
                      go_meet
                      case rel => exact ⟨rfl, _, HG2.out.addName (x := ⟨c, o, size, nm.1, nm.2⟩) HGR.out HOW.out HAT.out, HGR.out.keptX (fun g hg => (own_lt HG2.out.names hg).2) hBb 2 _⟩
                  case rest =>
                    obtain ⟨rfl, HQ1⟩ := hcut
                    obtain ⟨we, rfl⟩ : ∃ we : World, we = wc := ⟨_, rfl⟩
                    obtain ⟨vN', hG3, hK3⟩ := HQ1.out
                    have HG3 := Lib.hid hG3
                    have HK3 := Lib.hid hK3
                    have q3 := box_cell hG3.cells 3
                    have f3 := box_free hG3.cells 3
                    simp at q3
                    have hXl3 := heap_lt hG3.cells
                    clear hG3 hK3 HQ1 q2 y0 y1
                    go_wp2_with fail
                    go_ret2
                    refine ⟨HK.out.trans (HM.out.kept.trans (HK1.out.trans (HK2.out.trans (HK3.out.trans ?_)))), ?_⟩
                    · exact ⟨rfl, rfl, rfl, by simp [World.setCell], fun k h1 h2 => Below.heap_setCell _ _ _ _ h2⟩
                    · rw [HP.out, if_neg (by rw [HW9.out]; exact hfull)]
                      have hf := HG3.out.setSize (size + (1 + W9))
                      rw [show ((size + (1 + W9) : Nat) : Int) = (size : Int) + 1 + W9 by omega] at hf
                      refine ⟨rfl, vO', vA', vN', vL1, ?_⟩
                      show AsmAt _ B X vO' vA' vN' vL1 ls' (xs ++ [⟨c, o, size, nm.1, nm.2⟩]) (size + (1 + widthN (shapeN c)))
                      rw [HW9.out]
                      exact ⟨hf.bX, hf.cells, hf.ops, hf.ats, hf.names, hf.labs, hf.ne, by rw [List.length_append, List.length_singleton]; omega⟩
end Go.Proofs.YtbigllcononkbaaDoor
