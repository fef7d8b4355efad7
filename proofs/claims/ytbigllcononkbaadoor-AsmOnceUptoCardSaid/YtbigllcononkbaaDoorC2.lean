/- The walk of code.At: what stands at a place of a program. -/
import Derived.Test.YtbigllcononkbaaDoorC1
import Derived.Deep.DeepCutAuto
import Derived.Deep.RegionWith
import Derived.Laws.BitsAllLaws
namespace Go.Proofs.YtbigllcononkbaaDoor
open Go Go.RowKit

/-- The table of shapes lies in its variable. -/
def Tab (w : World) : Prop := ∀ c : Nat, c < 41 → w.cell? ⟨1, c, none⟩ = some (.int .u8 (shapeN c))

theorem le_step (l : List UInt8) (j : Nat) (hj : j < 8) (hl : j < l.length) :
    bits .or .u64 (leN (l.take j) : Int) (IntKind.u64.wrap (IntKind.u64.wrap (l[j].toNat : Int) * 2 ^ (8 * j))) = (leN (l.take (j + 1)) : Int) := by
  have hb := (l[j]).toNat_lt
  have h1 : IntKind.u64.wrap (l[j].toNat : Int) = l[j].toNat := by simp [IntKind.wrap, IntKind.bits, IntKind.signed]; omega
  rw [h1]
  have hlt := leN_lt (l.take j)
  rw [List.length_take, Nat.min_eq_left (by omega)] at hlt
  have key : ∀ (t : List UInt8) (b : UInt8) , leN (t ++ [b]) = leN t + 256 ^ t.length * b.toNat := by
    intro t b
    induction t with
    | nil => simp [leN]
    | cons a t ih => simp only [List.cons_append, leN, ih, List.length_cons, Nat.pow_succ]; rw [Nat.mul_add, Nat.mul_comm (256 ^ t.length) 256, Nat.mul_assoc]; omega
  rw [List.take_succ_eq_append_getElem hl, key, List.length_take, Nat.min_eq_left (by omega)]
  generalize leN (l.take j) = q at *
  generalize (l[j]).toNat = b at *
  have e : (256 : Nat) ^ j = 2 ^ (8 * j) := by rw [Nat.pow_mul]
  rw [e] at hlt ⊢
  have hp : 2 ^ (8 * j) * 256 ≤ 18446744073709551616 := by
    have : (2 : Nat) ^ (8 * j) ≤ 2 ^ 56 := Nat.pow_le_pow_right (by omega) (by omega)
    omega
  have hm : b * 2 ^ (8 * j) < 18446744073709551616 := by
    have : b * 2 ^ (8 * j) ≤ 255 * 2 ^ (8 * j) := Nat.mul_le_mul_right _ (by omega)
    have := Nat.two_pow_pos (8 * j)
    omega
  have h2 : IntKind.u64.wrap ((b : Int) * 2 ^ (8 * j)) = ((b * 2 ^ (8 * j) : Nat) : Int) := by
    have : ((b : Int) * 2 ^ (8 * j)) = ((b * 2 ^ (8 * j) : Nat) : Int) := by push_cast; rfl
    rw [this]
    generalize b * 2 ^ (8 * j) = z at *
    simp [IntKind.wrap, IntKind.bits, IntKind.signed]; omega
  rw [h2, u64_or_nat _ _ (by omega) hm, Nat.or_comm, Nat.mul_comm b, ← Nat.two_pow_add_eq_or_of_lt hlt, Nat.add_comm]

set_option maxHeartbeats 400000 in
/-- At, refused: no such place. -/
theorem at_out (s : ByteArray) (i : Int) (w : World) (h : i < 0 ∨ (s.size : Int) ≤ i) :
    Calls Tryd.prog 31 #[.string s, .int .i64 i] w fun e w' => e = .returned (.tuple #[.agg #[.int .i64 0, .int .i64 0], .int .i64 0, .int .i64 10]) ∧ Below w.heap.size w w' := by
  by_cases h0 : i < 0
  · have h1 : decide (i < 0) = true := by simpa using h0
    go_enter Tryd.func31, Tryd.ntmps31
    go_wp2
    exact bodyPost_ret (v := .tuple #[.agg #[.int .i64 0, .int .i64 0], .int .i64 0, .int .i64 10]) (by simp [results, Tryd.results31, go_sem]) rfl ⟨rfl, ((Below.refl _ _).alloc (Nat.le_refl _) _)⟩
  · have h2 : (s.size : Int) ≤ i := by omega
    have h1 : decide (i < 0) = false := by simpa using h0
    go_enter Tryd.func31, Tryd.ntmps31
    go_wp2
    exact bodyPost_ret (v := .tuple #[.agg #[.int .i64 0, .int .i64 0], .int .i64 0, .int .i64 10]) (by simp [results, Tryd.results31, go_sem]) rfl ⟨rfl, ((Below.refl _ _).alloc (Nat.le_refl _) _)⟩
set_option maxHeartbeats 400000 in
theorem at_bad (s : ByteArray) (i : Nat) (w : World) (h : i < s.size) (_hs : s.size ≤ 140737488351232) (hb : 41 ≤ (s[i].toNat : Int)) :
    Calls Tryd.prog 31 #[.string s, .int .i64 i] w fun e w' => e = .returned (.tuple #[.agg #[.int .i64 0, .int .i64 0], .int .i64 0, .int .i64 10]) ∧ Below w.heap.size w w' := by
  go_enter Tryd.func31, Tryd.ntmps31
  go_wp2
  exact bodyPost_ret (v := .tuple #[.agg #[.int .i64 0, .int .i64 0], .int .i64 0, .int .i64 10]) (by simp [results, Tryd.results31, go_sem]) rfl ⟨rfl, ((Below.refl _ _).alloc (Nat.le_refl _) _)⟩

set_option maxHeartbeats 400000 in
theorem at_short (s : ByteArray) (i : Nat) (w : World) (h : i < s.size) (_hs : s.size ≤ 140737488351232) (hb : (s[i].toNat : Int) < 41) (hT : Tab w)
    (hw : (s.size : Int) - i - 1 < widthN (shapeN s[i].toNat)) :
    Calls Tryd.prog 31 #[.string s, .int .i64 i] w fun e w' => e = .returned (.tuple #[.agg #[.int .i64 0, .int .i64 0], .int .i64 0, .int .i64 10]) ∧ Below w.heap.size w w' := by
  have hc := hT s[i].toNat (by omega)
  have hx : 0 ≤ (s[i].toNat : Int) := by omega
  have hz := World.block_lt_of_cell? _ _ hc
  simp only at hz
  clear hT
  go_enter Tryd.func31, Tryd.ntmps31
  go_wp2_with (first | (go_at_call 46; refine (width_any _ _).mono ?_; rintro e w' ⟨rfl, rfl⟩))
  exact bodyPost_ret (v := .tuple #[.agg #[.int .i64 0, .int .i64 0], .int .i64 0, .int .i64 10]) (by simp [results, Tryd.results31, go_sem]) rfl ⟨rfl, ((Below.refl _ _).alloc (Nat.le_refl _) _)⟩

/-- What At answers at a place where an opcode stands and its operand has room. -/
def atAns (s : ByteArray) (i W : Nat) (a : Nat) (c : Nat) : Value :=
  if fitsB a (valueN a (leN ((s.data.toList.drop (i + 1)).take W))) = true then
    .tuple #[.agg #[.int .i64 c, .int .i64 (valueN a (leN ((s.data.toList.drop (i + 1)).take W)))], .int .i64 (1 + W : Nat), .int .i64 0]
  else .tuple #[.agg #[.int .i64 0, .int .i64 0], .int .i64 0, .int .i64 10]

theorem extract_get (s : ByteArray) (i j : Nat) (h : j < (s.extract i s.size).size) (h2 : j < (s.data.toList.drop i).length) : (s.extract i s.size)[j] = (s.data.toList.drop i)[j] := by
  simp only [ByteArray.getElem_eq_getElem_data, List.getElem_drop, ByteArray.data_extract, Array.getElem_extract, Array.getElem_toList]
set_option maxHeartbeats 1600000 in
theorem at_ok (s : ByteArray) (i : Nat) (w : World) (h : i < s.size) (_hs : s.size ≤ 140737488351232) (hb : (s[i].toNat : Int) < 41) (hT : Tab w)
    (W : Nat) (hW : widthN (shapeN s[i].toNat) = W) (hw : i + 1 + W ≤ s.size) :
    Calls Tryd.prog 31 #[.string s, .int .i64 i] w fun e w' => e = .returned (atAns s i W (shapeN s[i].toNat) s[i].toNat) ∧ Below w.heap.size w w' := by
  have hc := hT s[i].toNat (by omega)
  have hx : 0 ≤ (s[i].toNat : Int) := by omega
  have hz := World.block_lt_of_cell? _ _ hc
  simp only at hz
  clear hT
  have hW8 : W ≤ 8 := by have := widthN_cases (shapeN s[i].toNat); omega
  have HW := Lib.hid hW
  clear hW
  have d1 : decide ((i : Int) < 0) = false := by simp
  have d2 : decide (41 ≤ (s[i].toNat : Int)) = false := by simpa using hb
  have d3 : IntKind.i64.wrap (s[i].toNat : Int) = s[i].toNat := IntWalk.i64_in _ (by omega)
  have d4 : decide (s.size - (i + 1) < W) = false := by simp; omega
  go_enter Tryd.func31, Tryd.ntmps31
  go_wp2_with (first | (go_at_call 46; refine (width_any _ _).mono ?_; rintro e w' ⟨rfl, rfl⟩; rw [HW.out]))
  go_loop [10, 11, 45] (fun n _ k => ∃ j : Nat, j ≤ W ∧ k = .int .i64 j ∧ n = .int .u64 (leN ((s.data.toList.drop (i + 1)).take j))) (fun _ _ k => W - (intOf k).toNat)
  case atStart => exact ⟨0, by omega, rfl, rfl⟩
  case round =>
    obtain ⟨j, hj, rfl, rfl⟩ := hrel
    by_cases hlt : j < W
    · go_wp2
      go_round
      case rel =>
        refine ⟨j + 1, by omega, by go_num, ?_⟩
        have hq : j < (s.data.toList.drop (i + 1)).length := by simp; omega
        rw [extract_get s (i + 1) j _ hq, le_step _ j (by omega) hq]
      case measure => simp [intOf]; omega
    · go_wp2
      obtain rfl : j = W := by omega
      go_cut [12] (fun v12 wc => v12 = .pointer (some ⟨w.heap.size + 1, 0, none⟩) ∧ wc = ((w.alloc (Obj.cells #[Value.int IntKind.i64 0, Value.int IntKind.i64 0] 35)).alloc (.cells #[.int .i64 s[i].toNat, .int .i64 (valueN (shapeN s[i].toNat) (leN ((s.data.toList.drop (i + 1)).take j)))] 35)).drew)
      case first =>
        go_region_with ((go_at_call 50; refine (value_any _ _ _).mono ?_; rintro e w' ⟨rfl, rfl⟩))
        all_goals go_wp2
        all_goals go_meet
        all_goals case rel => exact ⟨rfl, rfl⟩
      case rest =>
        obtain ⟨rfl, rfl⟩ := hcut
        cases hf : fitsB (shapeN s[i].toNat) (valueN (shapeN s[i].toNat) (leN ((s.data.toList.drop (i + 1)).take j)))
        · go_wp2_with (first | (go_at_call 45; refine (fits_any _ _ _).mono ?_; rintro e w' ⟨rfl, rfl⟩; rw [hf]))
          refine bodyPost_ret (v := .tuple #[.agg #[.int .i64 0, .int .i64 0], .int .i64 0, .int .i64 10]) (by simp [results, Tryd.results31, go_sem]) rfl ⟨by rw [atAns, hf]; rfl, ?_⟩
          exact ((((Below.refl _ _).alloc (Nat.le_refl _) _).alloc (by simp) _).drew)
        · go_wp2_with (first | (go_at_call 45; refine (fits_any _ _ _).mono ?_; rintro e w' ⟨rfl, rfl⟩; rw [hf]))
          refine bodyPost_ret (v := atAns s i j (shapeN s[i].toNat) s[i].toNat) (by rw [atAns, hf, if_pos rfl, Int.natCast_add]; simp [results, Tryd.results31, go_sem]) rfl ⟨rfl, ?_⟩
          exact ((((Below.refl _ _).alloc (Nat.le_refl _) _).alloc (by simp) _).drew)

/-- What At answers. -/
def atV : Option Ins → Value
  | none => .tuple #[.agg #[.int .i64 0, .int .i64 0], .int .i64 0, .int .i64 10]
  | some x => .tuple #[.agg #[.int .i64 x.c, .int .i64 x.o], .int .i64 x.len, .int .i64 0]
theorem drop_cons (s : ByteArray) (i : Nat) (h : i < s.size) : s.data.toList.drop i = s[i] :: s.data.toList.drop (i + 1) := by
  rw [List.drop_eq_getElem_cons (by simpa using h)]
  rfl
/-- code.At at a place from 0 on. -/
theorem at_any (s : ByteArray) (i : Nat) (w : World) (hs : s.size ≤ 140737488351232) (hT : Tab w) :
    Calls Tryd.prog 31 #[.string s, .int .i64 i] w fun e w' => e = .returned (atV (atF (s.data.toList.drop i))) ∧ Below w.heap.size w w' := by
  by_cases h : i < s.size
  · rw [drop_cons s i h]
    by_cases hb : s[i].toNat < 41
    · have hlen : (s.data.toList.drop (i + 1)).length = s.size - (i + 1) := by simp
      by_cases hw : s.size - (i + 1) < widthN (shapeN s[i].toNat)
      · have e : atF (s[i] :: s.data.toList.drop (i + 1)) = none := by simp only [atF, if_pos hb, hlen, if_pos hw]
        rw [e]
        exact at_short s i w h hs (by omega) hT (by omega)
      · refine (at_ok s i w h hs (by omega) hT _ rfl (by omega)).mono fun e w' he => ?_
        obtain ⟨rfl, hbl⟩ := he
        refine ⟨?_, hbl⟩
        simp only [atF, if_pos hb, hlen, if_neg hw, atAns]
        split
        · simp [atV, Ins.len, Ins.w]
        · rfl
    · have e : atF (s[i] :: s.data.toList.drop (i + 1)) = none := by simp only [atF, if_neg hb]
      rw [e]
      exact at_bad s i w h hs (by omega)
  · rw [List.drop_eq_nil_of_le (by simp; omega)]
    exact at_out s i w (.inr (by omega))
end Go.Proofs.YtbigllcononkbaaDoor
