/- The walk of the definition's Width and Range (layer 13). -/
import Derived.Test.YtbigllcononkbaaDoorC2
namespace Go.Proofs.YtbigllcononkbaaDoor
open Go Go.RowKit

/-- How many bytes an operand has, by the definition. -/
def w13 (c : Nat) : Int := if 40 < c then -1 else if c = 1 ∨ c = 23 ∨ c = 28 ∨ 33 ≤ c then 1 else if c = 2 ∨ c = 24 ∨ c = 25 ∨ c = 26 then 2 else if c = 3 then 8 else 0
set_option maxHeartbeats 1600000 in
theorem width13_any (c : Nat) (w : World) :
    Calls Tryd.prog 37 #[.int .i64 c] w fun e w' => e = .returned (.int .i64 (w13 c)) ∧ w' = w := by
  go_enter Tryd.func37, Tryd.ntmps37
  go_wp2
  all_goals go_ret
  all_goals refine ⟨ret_int ?_, rfl⟩
  all_goals try simp only [beq_iff_eq, beq_eq_false_iff_ne, ne_eq, decide_eq_true_eq, decide_eq_false_iff_not] at *
  all_goals (unfold w13; repeat' split)
  all_goals omega
def lo13 (c : Nat) : Int := if c = 1 then -128 else if c = 2 ∨ c = 24 ∨ c = 25 then -32768 else if c = 3 then -9223372036854775808 else 0
def hi13 (c : Nat) : Int := if c = 1 then 127 else if c = 2 ∨ c = 24 ∨ c = 25 then 32767 else if c = 3 then 9223372036854775807 else if c = 23 then 5 else if c = 26 then 65535 else if w13 c = 1 then 255 else 0
theorem ret_pair {a b c d : Int} (h : a = b) (k : c = d) : Ending.returned (.tuple #[.int .i64 a, .int .i64 c]) = .returned (.tuple #[.int .i64 b, .int .i64 d]) := by rw [h, k]
set_option maxHeartbeats 1600000 in
theorem range13_any (c : Nat) (w : World) :
    Calls Tryd.prog 39 #[.int .i64 c] w fun e w' => e = .returned (.tuple #[.int .i64 (lo13 c), .int .i64 (hi13 c)]) ∧ w' = w := by
  go_enter Tryd.func39, Tryd.ntmps39
  go_wp2_with (go_at_call 37; refine (width13_any _ _).mono ?_; rintro e w3 ⟨rfl, h3⟩; rw [h3]; clear h3 w3)
  all_goals go_ret2
  all_goals refine ⟨ret_pair ?_ ?_, rfl⟩
  all_goals try simp only [beq_iff_eq, beq_eq_false_iff_ne, ne_eq, decide_eq_true_eq, decide_eq_false_iff_not] at *
  all_goals first | (unfold lo13; repeat' split) | (unfold hi13; repeat' split)
  all_goals first | rfl | omega
end Go.Proofs.YtbigllcononkbaaDoor
