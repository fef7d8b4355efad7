/- The walk of package code's small functions: width, fits, value. -/
import Derived.Test.YtbigllcononkbaaDoorProg
import Derived.Test.YtbigllcononkbaaDoorL1
import Derived.WalkKit
import Derived.Lib.Hide
namespace Go.Proofs.YtbigllcononkbaaDoor
open Go Go.RowKit

theorem ret_int {k : IntKind} {a b : Int} (h : a = b) : Ending.returned (.int k a) = .returned (.int k b) := by rw [h]
theorem ret_bool {a b : Bool} (h : a = b) : Ending.returned (.bool a) = .returned (.bool b) := by rw [h]
theorem ret_string {a b : ByteArray} (h : a = b) : Ending.returned (.string a) = .returned (.string b) := by rw [h]
set_option maxHeartbeats 400000 in
theorem width_any (a : Nat) (w : World) :
    Calls Tryd.prog 46 #[.int .u8 a] w fun e w' => e = .returned (.int .i64 (widthN a)) ∧ w' = w := by
  go_enter Tryd.func46, Tryd.ntmps46
  go_wp2
  all_goals go_ret
  all_goals refine ⟨ret_int ?_, rfl⟩
  all_goals simp only [beq_iff_eq, beq_eq_false_iff_ne, ne_eq] at *
  all_goals (unfold widthN; repeat' split)
  all_goals omega
set_option maxHeartbeats 400000 in
theorem fits_any (a : Nat) (n : Int) (w : World) :
    Calls Tryd.prog 45 #[.int .u8 a, .int .i64 n] w fun e w' => e = .returned (.bool (fitsB a n)) ∧ w' = w := by
  go_enter Tryd.func45, Tryd.ntmps45
  go_wp2
  all_goals go_ret
  all_goals refine ⟨ret_bool ?_, rfl⟩
  all_goals simp only [beq_iff_eq, beq_eq_false_iff_ne, ne_eq] at *
  all_goals (unfold fitsB; repeat' split)
  all_goals first | rfl | omega | (rw [decide_eq_decide]; omega) | (symm; rw [decide_eq_false_iff_not]; omega) | (symm; rw [decide_eq_true_iff]; omega) | (rw [beq_eq_decide]; rfl)
theorem wrap_v1 (n : Nat) : wrap64 (IntKind.i8.wrap n) = valueN 1 n := by simp [wrap64, IntKind.wrap, IntKind.bits, IntKind.signed, valueN]; split <;> split <;> omega
theorem wrap_v2 (n : Nat) : wrap64 (IntKind.i16.wrap n) = valueN 2 n := by simp [wrap64, IntKind.wrap, IntKind.bits, IntKind.signed, valueN]; split <;> split <;> omega
theorem wrap_v0 (a n : Nat) (h1 : a ≠ 1) (h2 : a ≠ 2) : wrap64 n = valueN a n := by simp only [wrap64, valueN, if_neg h1, if_neg h2]; split <;> omega
set_option maxHeartbeats 400000 in
theorem value_any (a n : Nat) (w : World) :
    Calls Tryd.prog 50 #[.int .u8 a, .int .u64 n] w fun e w' => e = .returned (.int .i64 (valueN a n)) ∧ w' = w := by
  go_enter Tryd.func50, Tryd.ntmps50
  go_wp2
  all_goals go_ret
  all_goals refine ⟨ret_int ?_, rfl⟩
  all_goals simp only [beq_iff_eq, beq_eq_false_iff_ne, ne_eq] at *
  · obtain rfl : a = 1 := by omega
    exact wrap_v1 n
  · obtain rfl : a = 2 := by omega
    exact wrap_v2 n
  · exact wrap_v0 a n (by omega) (by omega)
end Go.Proofs.YtbigllcononkbaaDoor
