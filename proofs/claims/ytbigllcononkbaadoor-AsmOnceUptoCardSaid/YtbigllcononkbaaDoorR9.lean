/- The walk of the definition's operand (layer 14). -/
import Derived.Test.YtbigllcononkbaaDoorR8
import Derived.Test.YtbigllcononkbaaDoorG3
import Derived.BigRegion
namespace Go.Proofs.YtbigllcononkbaaDoor
open Go Go.RowKit

theorem lo13_shape : ∀ c, c < 41 → lo13 c = (if shapeN c = 1 then -128 else if shapeN c = 2 then -32768 else if shapeN c = 3 then -9223372036854775808 else 0) := by decide +kernel
theorem fits_range (c : Nat) (n : Int) (hc : c < 41) (h0 : 0 < widthN (shapeN c)) (h1 : -9223372036854775808 ≤ n) (h2 : n ≤ 9223372036854775807) : fitsB (shapeN c) n = true ↔ lo13 c ≤ n ∧ n ≤ hi13 c := by
  have hi := hi13_shape c hc
  have lo := lo13_shape c hc
  have h6 := shapeN_le c
  rw [hi, lo]
  clear hi lo
  generalize shapeN c = a at *
  obtain rfl | rfl | rfl | rfl | rfl | rfl | rfl : a = 0 ∨ a = 1 ∨ a = 2 ∨ a = 3 ∨ a = 4 ∨ a = 5 ∨ a = 6 := by omega
  · simp [widthN] at h0
  all_goals simp [fitsB]
  all_goals omega
/-- What operand answers. -/
def operV : Except (Int × Int) (Int × Tok) → Value
  | .error (n, a) => .tuple #[.int .i64 0, .agg #[.string ⟨#[]⟩, .int .i64 0], .int .i64 n, .int .i64 a]
  | .ok (o, nm) => .tuple #[.int .i64 o, .agg #[.string ⟨nm.1.toArray⟩, .int .i64 nm.2], .int .i64 0, .int .i64 0]
def opRes (c : Nat) (t0 : Tok) (ts : List Tok) : Except (Int × Int) (Int × Tok) := match ts with | [] => .error (9, t0.2 + t0.1.length) | t1 :: _ => operF c t1
def OperPost (w : World) (r : Except (Int × Int) (Int × Tok)) (e : Ending) (w' : World) : Prop := e = .returned (operV r) ∧ Below w.heap.size w w'
set_option maxRecDepth 100000 in
set_option maxHeartbeats 1600000 in
theorem oper14_lacks (c g off cap : Nat) (t0 : Tok) (w : World) (hT : TokAt w g off [t0]) :
    Calls Tryd.prog 49 #[.int .i64 c, .slice (some ⟨g, off, none⟩) 1 cap] w (OperPost w (.error (9, t0.2 + t0.1.length))) := by
  obtain ⟨hu0, hu1⟩ := hT.head
  have hgl := hT.2.2.1
  obtain ⟨hb1, hb2, hb3⟩ := hT.2.1 t0 List.mem_cons_self
  obtain ⟨q, hq⟩ : ∃ q : ByteArray, q = ⟨t0.1.toArray⟩ := ⟨_, rfl⟩
  have hqz : q.size = t0.1.length := by rw [hq]; show (List.toArray _).size = _; simp
  rw [← hq] at hu0
  have hqs : q.size ≤ 1048576 := by omega
  have HQ := Lib.hid hqz
  clear hqz hq hT hb1
  go_enter Tryd.func49, Tryd.ntmps49
  go_wp2_with fail
  go_region
  go_wp2_with fail
  exact bodyPost_ret (v := operV (.error (9, t0.2 + t0.1.length))) (by simp [operV, ← HQ.out, results, Tryd.results49, go_sem]) rfl ⟨rfl, (by repeat (first | exact Below.refl _ _ | refine Below.drew ?_ | refine Below.drewN ?_ _ | refine Below.setCell ?_ (by simp) _ | refine Below.alloc ?_ (by simp) _))⟩
set_option maxRecDepth 100000 in
set_option maxHeartbeats 1600000 in
theorem oper14_nolead (c g off cap : Nat) (t0 t1 : Tok) (ts : List Tok) (w : World) (hT : TokAt w g off (t0 :: t1 :: ts)) (hc : c < 41) (hw : 0 < widthN (shapeN c)) (hn : numB t1.1 = none) (hl : leadsB c = false) :
    Calls Tryd.prog 49 #[.int .i64 c, .slice (some ⟨g, off, none⟩) (ts.length + 1 + 1) cap] w (OperPost w (operF c t1)) := by
  obtain ⟨hu0, hu1⟩ := hT.tail.head
  have hgl := hT.2.2.1
  have hlen : ts.length ≤ 1048577 := by have := hT.1; simp at this; omega
  obtain ⟨hb1, hb2, hb3⟩ := hT.2.1 t1 (List.mem_cons_of_mem _ List.mem_cons_self)
  obtain ⟨q, hq⟩ : ∃ q : ByteArray, q = ⟨t1.1.toArray⟩ := ⟨_, rfl⟩
  have hqd : q.data.toList = t1.1 := by rw [hq]
  have hqz : q.size = t1.1.length := by rw [hq]; show (List.toArray _).size = _; simp
  rw [← hq] at hu0
  have hqs : q.size ≤ 1048576 := by omega
  have HQ := Lib.hid hq
  have HN : Hid (numB q.data.toList = none) := by show numB _ = none; rw [hqd]; exact hn
  have HL : Hid (leadsB c = false) := hl
  obtain ⟨bm, hbm⟩ : ∃ bm, nameB q.data.toList = bm := ⟨_, rfl⟩
  have HM := Lib.hid hbm
  have hof : operF c t1 = .error (9, t1.2) := by unfold operF; rw [hn]; simp only; rw [hl]; rfl
  have HOF := Lib.hid hof
  clear hqd hqz hq hT hb1 hn hl hbm hof
  go_enter Tryd.func49, Tryd.ntmps49
  go_wp2_with (first | (go_at_call 66; refine (number_any _ q _ rfl hqs).mono ?_; rintro e w3 ⟨n', ok, rfl, hok, h3⟩; rw [HN.out] at hok; obtain rfl : ok = false := hok; rw [h3]; clear h3 w3) | (go_at_call 64; refine (name14_any q _ (by omega)).mono ?_; rintro e w3 ⟨rfl, h3⟩; rw [h3]; clear h3 w3; rw [HM.out]) | (go_at_call 67; refine (leads14_any c _).mono ?_; rintro e w3 ⟨rfl, h3⟩; rw [h3]; clear h3 w3; rw [HL.out]) | (go_at_call 39; refine (range13_any _ _).mono ?_; rintro e w3 ⟨rfl, h3⟩; rw [h3]; clear h3 w3))
  go_region
  go_wp2_with fail
  exact bodyPost_ret (v := operV (.error (9, t1.2))) (by simp [operV, results, Tryd.results49, go_sem]) rfl ⟨by rw [HOF.out], (by repeat (first | exact Below.refl _ _ | refine Below.drew ?_ | refine Below.drewN ?_ _ | refine Below.setCell ?_ (by simp) _ | refine Below.alloc ?_ (by simp) _))⟩
set_option maxRecDepth 100000 in
set_option maxHeartbeats 1600000 in
theorem oper14_noname (c g off cap : Nat) (t0 t1 : Tok) (ts : List Tok) (w : World) (hT : TokAt w g off (t0 :: t1 :: ts)) (hc : c < 41) (hw : 0 < widthN (shapeN c)) (hn : numB t1.1 = none) (hl : leadsB c = true) (hm : nameB t1.1 = false) :
    Calls Tryd.prog 49 #[.int .i64 c, .slice (some ⟨g, off, none⟩) (ts.length + 1 + 1) cap] w (OperPost w (operF c t1)) := by
  obtain ⟨hu0, hu1⟩ := hT.tail.head
  have hgl := hT.2.2.1
  have hlen : ts.length ≤ 1048577 := by have := hT.1; simp at this; omega
  obtain ⟨hb1, hb2, hb3⟩ := hT.2.1 t1 (List.mem_cons_of_mem _ List.mem_cons_self)
  obtain ⟨q, hq⟩ : ∃ q : ByteArray, q = ⟨t1.1.toArray⟩ := ⟨_, rfl⟩
  have hqd : q.data.toList = t1.1 := by rw [hq]
  have hqz : q.size = t1.1.length := by rw [hq]; show (List.toArray _).size = _; simp
  rw [← hq] at hu0
  have hqs : q.size ≤ 1048576 := by omega
  have HQ := Lib.hid hq
  have HN : Hid (numB q.data.toList = none) := by show numB _ = none; rw [hqd]; exact hn
  have HL : Hid (leadsB c = true) := hl
  obtain ⟨bm, hbm⟩ : ∃ bm, nameB q.data.toList = bm := ⟨_, rfl⟩
  obtain rfl : bm = false := by rw [← hbm, hqd]; exact hm
  have HM := Lib.hid hbm
  have hof : operF c t1 = .error (9, t1.2) := by unfold operF; rw [hn]; simp only; rw [hl, hm]; rfl
  have HOF := Lib.hid hof
  clear hqd hqz hq hT hb1 hn hl hbm hof hm
  go_enter Tryd.func49, Tryd.ntmps49
  go_wp2_with (first | (go_at_call 66; refine (number_any _ q _ rfl hqs).mono ?_; rintro e w3 ⟨n', ok, rfl, hok, h3⟩; rw [HN.out] at hok; obtain rfl : ok = false := hok; rw [h3]; clear h3 w3) | (go_at_call 64; refine (name14_any q _ (by omega)).mono ?_; rintro e w3 ⟨rfl, h3⟩; rw [h3]; clear h3 w3; rw [HM.out]) | (go_at_call 67; refine (leads14_any c _).mono ?_; rintro e w3 ⟨rfl, h3⟩; rw [h3]; clear h3 w3; rw [HL.out]) | (go_at_call 39; refine (range13_any _ _).mono ?_; rintro e w3 ⟨rfl, h3⟩; rw [h3]; clear h3 w3))
  go_region
  go_wp2_with fail
  exact bodyPost_ret (v := operV (.error (9, t1.2))) (by simp [operV, results, Tryd.results49, go_sem]) rfl ⟨by rw [HOF.out], (by repeat (first | exact Below.refl _ _ | refine Below.drew ?_ | refine Below.drewN ?_ _ | refine Below.setCell ?_ (by simp) _ | refine Below.alloc ?_ (by simp) _))⟩
set_option maxRecDepth 100000 in
set_option maxHeartbeats 1600000 in
theorem oper14_name (c g off cap : Nat) (t0 t1 : Tok) (ts : List Tok) (w : World) (hT : TokAt w g off (t0 :: t1 :: ts)) (hc : c < 41) (hw : 0 < widthN (shapeN c)) (hn : numB t1.1 = none) (hl : leadsB c = true) (hm : nameB t1.1 = true) :
    Calls Tryd.prog 49 #[.int .i64 c, .slice (some ⟨g, off, none⟩) (ts.length + 1 + 1) cap] w (OperPost w (operF c t1)) := by
  obtain ⟨hu0, hu1⟩ := hT.tail.head
  have hgl := hT.2.2.1
  have hlen : ts.length ≤ 1048577 := by have := hT.1; simp at this; omega
  obtain ⟨hb1, hb2, hb3⟩ := hT.2.1 t1 (List.mem_cons_of_mem _ List.mem_cons_self)
  obtain ⟨q, hq⟩ : ∃ q : ByteArray, q = ⟨t1.1.toArray⟩ := ⟨_, rfl⟩
  have hqd : q.data.toList = t1.1 := by rw [hq]
  have hqz : q.size = t1.1.length := by rw [hq]; show (List.toArray _).size = _; simp
  rw [← hq] at hu0
  have hqs : q.size ≤ 1048576 := by omega
  have HQ := Lib.hid hq
  have HN : Hid (numB q.data.toList = none) := by show numB _ = none; rw [hqd]; exact hn
  have HL : Hid (leadsB c = true) := hl
  obtain ⟨bm, hbm⟩ : ∃ bm, nameB q.data.toList = bm := ⟨_, rfl⟩
  obtain rfl : bm = true := by rw [← hbm, hqd]; exact hm
  have HM := Lib.hid hbm
  have hof : operF c t1 = .ok (0, t1) := by unfold operF; rw [hn]; simp only; rw [hl, hm]; rfl
  have HOF := Lib.hid hof
  clear hqd hqz hq hT hb1 hn hl hbm hof hm
  go_enter Tryd.func49, Tryd.ntmps49
  go_wp2_with (first | (go_at_call 66; refine (number_any _ q _ rfl hqs).mono ?_; rintro e w3 ⟨n', ok, rfl, hok, h3⟩; rw [HN.out] at hok; obtain rfl : ok = false := hok; rw [h3]; clear h3 w3) | (go_at_call 64; refine (name14_any q _ (by omega)).mono ?_; rintro e w3 ⟨rfl, h3⟩; rw [h3]; clear h3 w3; rw [HM.out]) | (go_at_call 67; refine (leads14_any c _).mono ?_; rintro e w3 ⟨rfl, h3⟩; rw [h3]; clear h3 w3; rw [HL.out]) | (go_at_call 39; refine (range13_any _ _).mono ?_; rintro e w3 ⟨rfl, h3⟩; rw [h3]; clear h3 w3))
  go_region
  go_wp2_with fail
  exact bodyPost_ret (v := operV (.ok (0, t1))) (by simp [operV, results, Tryd.results49, go_sem]; exact HQ.out) rfl ⟨by rw [HOF.out], (by repeat (first | exact Below.refl _ _ | refine Below.drew ?_ | refine Below.drewN ?_ _ | refine Below.setCell ?_ (by simp) _ | refine Below.alloc ?_ (by simp) _))⟩
set_option maxRecDepth 100000 in
set_option maxHeartbeats 1600000 in
theorem oper14_low (c g off cap : Nat) (t0 t1 : Tok) (ts : List Tok) (w : World) (hT : TokAt w g off (t0 :: t1 :: ts)) (hc : c < 41) (hw : 0 < widthN (shapeN c)) (v : Int) (hn : numB t1.1 = some v) (hf : ¬ fitsB (shapeN c) v = true) (hlo : v < lo13 c) :
    Calls Tryd.prog 49 #[.int .i64 c, .slice (some ⟨g, off, none⟩) (ts.length + 1 + 1) cap] w (OperPost w (operF c t1)) := by
  obtain ⟨hu0, hu1⟩ := hT.tail.head
  have hgl := hT.2.2.1
  have hlen : ts.length ≤ 1048577 := by have := hT.1; simp at this; omega
  obtain ⟨hb1, hb2, hb3⟩ := hT.2.1 t1 (List.mem_cons_of_mem _ List.mem_cons_self)
  obtain ⟨q, hq⟩ : ∃ q : ByteArray, q = ⟨t1.1.toArray⟩ := ⟨_, rfl⟩
  have hqd : q.data.toList = t1.1 := by rw [hq]
  have hqz : q.size = t1.1.length := by rw [hq]; show (List.toArray _).size = _; simp
  rw [← hq] at hu0
  have hqs : q.size ≤ 1048576 := by omega
  have HQ := Lib.hid hq
  have HN : Hid (numB q.data.toList = some v) := by show numB _ = some v; rw [hqd]; exact hn
  obtain ⟨v0, v1⟩ := numB_in64 _ _ hn
  have hfr := fits_range c v hc hw v0 v1
  obtain ⟨bl, hbl⟩ : ∃ bl, leadsB c = bl := ⟨_, rfl⟩
  obtain ⟨bm, hbm⟩ : ∃ bm, nameB q.data.toList = bm := ⟨_, rfl⟩
  have HL := Lib.hid hbl
  have HM := Lib.hid hbm
  have hof : operF c t1 = .error (12, t1.2) := by unfold operF; rw [hn]; simp only; rw [if_neg hf]
  have HOF := Lib.hid hof
  have d1 : decide (v < lo13 c) = true := by simpa using hlo
  clear hqd hqz hq hT hb1 hn hbl hbm hof hfr hf
  go_enter Tryd.func49, Tryd.ntmps49
  go_wp2_with (first | (go_at_call 66; refine (number_any _ q _ rfl hqs).mono ?_; rintro e w3 ⟨n', ok, rfl, hok, h3⟩; rw [HN.out] at hok; obtain ⟨rfl, rfl⟩ := hok; rw [h3]; clear h3 w3) | (go_at_call 64; refine (name14_any q _ (by omega)).mono ?_; rintro e w3 ⟨rfl, h3⟩; rw [h3]; clear h3 w3; rw [HM.out]) | (go_at_call 67; refine (leads14_any c _).mono ?_; rintro e w3 ⟨rfl, h3⟩; rw [h3]; clear h3 w3; rw [HL.out]) | (go_at_call 39; refine (range13_any _ _).mono ?_; rintro e w3 ⟨rfl, h3⟩; rw [h3]; clear h3 w3))
  go_region
  go_wp2_with fail
  exact bodyPost_ret (v := operV (.error (12, t1.2))) (by simp [operV, results, Tryd.results49, go_sem]) rfl ⟨by rw [HOF.out], (by repeat (first | exact Below.refl _ _ | refine Below.drew ?_ | refine Below.drewN ?_ _ | refine Below.setCell ?_ (by simp) _ | refine Below.alloc ?_ (by simp) _))⟩
set_option maxRecDepth 100000 in
set_option maxHeartbeats 1600000 in
theorem oper14_high (c g off cap : Nat) (t0 t1 : Tok) (ts : List Tok) (w : World) (hT : TokAt w g off (t0 :: t1 :: ts)) (hc : c < 41) (hw : 0 < widthN (shapeN c)) (v : Int) (hn : numB t1.1 = some v) (hf : ¬ fitsB (shapeN c) v = true) (hlo : ¬ v < lo13 c) (hhi : hi13 c < v) :
    Calls Tryd.prog 49 #[.int .i64 c, .slice (some ⟨g, off, none⟩) (ts.length + 1 + 1) cap] w (OperPost w (operF c t1)) := by
  obtain ⟨hu0, hu1⟩ := hT.tail.head
  have hgl := hT.2.2.1
  have hlen : ts.length ≤ 1048577 := by have := hT.1; simp at this; omega
  obtain ⟨hb1, hb2, hb3⟩ := hT.2.1 t1 (List.mem_cons_of_mem _ List.mem_cons_self)
  obtain ⟨q, hq⟩ : ∃ q : ByteArray, q = ⟨t1.1.toArray⟩ := ⟨_, rfl⟩
  have hqd : q.data.toList = t1.1 := by rw [hq]
  have hqz : q.size = t1.1.length := by rw [hq]; show (List.toArray _).size = _; simp
  rw [← hq] at hu0
  have hqs : q.size ≤ 1048576 := by omega
  have HQ := Lib.hid hq
  have HN : Hid (numB q.data.toList = some v) := by show numB _ = some v; rw [hqd]; exact hn
  obtain ⟨v0, v1⟩ := numB_in64 _ _ hn
  have hfr := fits_range c v hc hw v0 v1
  obtain ⟨bl, hbl⟩ : ∃ bl, leadsB c = bl := ⟨_, rfl⟩
  obtain ⟨bm, hbm⟩ : ∃ bm, nameB q.data.toList = bm := ⟨_, rfl⟩
  have HL := Lib.hid hbl
  have HM := Lib.hid hbm
  have hof : operF c t1 = .error (12, t1.2) := by unfold operF; rw [hn]; simp only; rw [if_neg hf]
  have HOF := Lib.hid hof
  have d1 : decide (v < lo13 c) = false := by simpa using hlo
  have d2 : decide (hi13 c < v) = true := by simpa using hhi
  clear hqd hqz hq hT hb1 hn hbl hbm hof hfr hf
  go_enter Tryd.func49, Tryd.ntmps49
  go_wp2_with (first | (go_at_call 66; refine (number_any _ q _ rfl hqs).mono ?_; rintro e w3 ⟨n', ok, rfl, hok, h3⟩; rw [HN.out] at hok; obtain ⟨rfl, rfl⟩ := hok; rw [h3]; clear h3 w3) | (go_at_call 64; refine (name14_any q _ (by omega)).mono ?_; rintro e w3 ⟨rfl, h3⟩; rw [h3]; clear h3 w3; rw [HM.out]) | (go_at_call 67; refine (leads14_any c _).mono ?_; rintro e w3 ⟨rfl, h3⟩; rw [h3]; clear h3 w3; rw [HL.out]) | (go_at_call 39; refine (range13_any _ _).mono ?_; rintro e w3 ⟨rfl, h3⟩; rw [h3]; clear h3 w3))
  go_region
  go_wp2_with fail
  exact bodyPost_ret (v := operV (.error (12, t1.2))) (by simp [operV, results, Tryd.results49, go_sem]) rfl ⟨by rw [HOF.out], (by repeat (first | exact Below.refl _ _ | refine Below.drew ?_ | refine Below.drewN ?_ _ | refine Below.setCell ?_ (by simp) _ | refine Below.alloc ?_ (by simp) _))⟩
set_option maxRecDepth 100000 in
set_option maxHeartbeats 1600000 in
theorem oper14_num (c g off cap : Nat) (t0 t1 : Tok) (ts : List Tok) (w : World) (hT : TokAt w g off (t0 :: t1 :: ts)) (hc : c < 41) (hw : 0 < widthN (shapeN c)) (v : Int) (hn : numB t1.1 = some v) (hf : fitsB (shapeN c) v = true) :
    Calls Tryd.prog 49 #[.int .i64 c, .slice (some ⟨g, off, none⟩) (ts.length + 1 + 1) cap] w (OperPost w (operF c t1)) := by
  obtain ⟨hu0, hu1⟩ := hT.tail.head
  have hgl := hT.2.2.1
  have hlen : ts.length ≤ 1048577 := by have := hT.1; simp at this; omega
  obtain ⟨hb1, hb2, hb3⟩ := hT.2.1 t1 (List.mem_cons_of_mem _ List.mem_cons_self)
  obtain ⟨q, hq⟩ : ∃ q : ByteArray, q = ⟨t1.1.toArray⟩ := ⟨_, rfl⟩
  have hqd : q.data.toList = t1.1 := by rw [hq]
  have hqz : q.size = t1.1.length := by rw [hq]; show (List.toArray _).size = _; simp
  rw [← hq] at hu0
  have hqs : q.size ≤ 1048576 := by omega
  have HQ := Lib.hid hq
  have HN : Hid (numB q.data.toList = some v) := by show numB _ = some v; rw [hqd]; exact hn
  obtain ⟨v0, v1⟩ := numB_in64 _ _ hn
  have hfr := fits_range c v hc hw v0 v1
  obtain ⟨bl, hbl⟩ : ∃ bl, leadsB c = bl := ⟨_, rfl⟩
  obtain ⟨bm, hbm⟩ : ∃ bm, nameB q.data.toList = bm := ⟨_, rfl⟩
  have HL := Lib.hid hbl
  have HM := Lib.hid hbm
  have hof : operF c t1 = .ok (v, ([], 0)) := by unfold operF; rw [hn]; simp only; rw [if_pos hf]
  have HOF := Lib.hid hof
  obtain ⟨f1, f2⟩ := hfr.1 hf
  have d1 : decide (v < lo13 c) = false := by simp; omega
  have d2 : decide (hi13 c < v) = false := by simp; omega
  clear hqd hqz hq hT hb1 hn hbl hbm hof hfr hf
  go_enter Tryd.func49, Tryd.ntmps49
  go_wp2_with (first | (go_at_call 66; refine (number_any _ q _ rfl hqs).mono ?_; rintro e w3 ⟨n', ok, rfl, hok, h3⟩; rw [HN.out] at hok; obtain ⟨rfl, rfl⟩ := hok; rw [h3]; clear h3 w3) | (go_at_call 64; refine (name14_any q _ (by omega)).mono ?_; rintro e w3 ⟨rfl, h3⟩; rw [h3]; clear h3 w3; rw [HM.out]) | (go_at_call 67; refine (leads14_any c _).mono ?_; rintro e w3 ⟨rfl, h3⟩; rw [h3]; clear h3 w3; rw [HL.out]) | (go_at_call 39; refine (range13_any _ _).mono ?_; rintro e w3 ⟨rfl, h3⟩; rw [h3]; clear h3 w3))
  exact bodyPost_ret (v := operV (.ok (n', ([], 0)))) (by simp [operV, results, Tryd.results49, go_sem]) rfl ⟨by rw [HOF.out], (by repeat (first | exact Below.refl _ _ | refine Below.drew ?_ | refine Below.drewN ?_ _ | refine Below.setCell ?_ (by simp) _ | refine Below.alloc ?_ (by simp) _))⟩
/-- operand. -/
theorem oper14_any (c g off cap : Nat) (t0 : Tok) (ts : List Tok) (w : World) (hT : TokAt w g off (t0 :: ts)) (hc : c < 41) (hw : 0 < widthN (shapeN c)) :
    Calls Tryd.prog 49 #[.int .i64 c, .slice (some ⟨g, off, none⟩) (ts.length + 1) cap] w (OperPost w (opRes c t0 ts)) := by
  cases ts with
  | nil => exact oper14_lacks c g off cap t0 w hT
  | cons t1 ts =>
    show Calls _ _ #[_, .slice _ (ts.length + 1 + 1) _] _ (OperPost w (operF c t1))
    cases hn : numB t1.1 with
    | none =>
      cases hl : leadsB c with
      | false => exact oper14_nolead c g off cap t0 t1 ts w hT hc hw hn hl
      | true =>
        cases hm : nameB t1.1 with
        | false => exact oper14_noname c g off cap t0 t1 ts w hT hc hw hn hl hm
        | true => exact oper14_name c g off cap t0 t1 ts w hT hc hw hn hl hm
    | some v =>
      by_cases hf : fitsB (shapeN c) v = true
      · exact oper14_num c g off cap t0 t1 ts w hT hc hw v hn hf
      · by_cases hlo : v < lo13 c
        · exact oper14_low c g off cap t0 t1 ts w hT hc hw v hn hf hlo
        · obtain ⟨v0, v1⟩ := numB_in64 _ _ hn
          have := mt (fits_range c v hc hw v0 v1).2 hf
          exact oper14_high c g off cap t0 t1 ts w hT hc hw v hn hf hlo (by omega)
end Go.Proofs.YtbigllcononkbaaDoor
