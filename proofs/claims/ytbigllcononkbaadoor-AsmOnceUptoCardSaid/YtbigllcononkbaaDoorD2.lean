/- The walk of the function that asm.Parse defers: what was given up is recovered. -/
import Derived.Test.YtbigllcononkbaaDoorD1
import Derived.Defers
import Derived.Recover
namespace Go.Proofs.YtbigllcononkbaaDoor
open Go Go.RowKit

/-- Parse's results lie in three blocks, one behind the other. -/
structure Outs (w : World) (b : Nat) : Prop where
  h0 : ∃ s, w.heap[b]? = some (.cells #[.string s] 9 (0, 0))
  h1 : ∃ e, w.heap[b + 1]? = some (.cells #[.int .i64 e] 22 (0, 0))
  h2 : ∃ a, w.heap[b + 2]? = some (.cells #[.int .i64 a] 3 (0, 0))

set_option maxRecDepth 100000 in
set_option maxHeartbeats 1600000 in
theorem catch_fault (b : Nat) (n a : Int) (w : World) (ho : Outs w b) :
    CallsD Tryd.prog 21 #[.pointer (some ⟨b, 0, none⟩), .pointer (some ⟨b + 1, 0, none⟩), .pointer (some ⟨b + 2, 0, none⟩)] (.panicking [{ v := .iface 56 (.agg #[.int .i64 n, .int .i64 a]), recovered := false }]) w fun e u' w' =>
      e = .returned (.tuple #[]) ∧ u' = .panicking [{ v := .iface 56 (.agg #[.int .i64 n, .int .i64 a]), recovered := true }] ∧ Below b w w' ∧
        w'.heap[b]? = some (.cells #[.string ⟨#[]⟩] 9 (0, 0)) ∧ w'.heap[b + 1]? = some (.cells #[.int .i64 n] 22 (0, 0)) ∧ w'.heap[b + 2]? = some (.cells #[.int .i64 a] 3 (0, 0)) := by
  refine callsD_of_wpS Tryd.func21 rfl fun c₀ cs hu => ?_
  apply wpS_seq
  apply wpS_region
  simp [wpOpsS, go_sem, recoverD, hu, Tryd.ntmps21, Exit.thenS]
  apply wpS_seq
  apply wpS_region
  simp [wpOpsS, go_sem, Exit.thenS]
  refine wpS_cond (t := true) (by simp [Act.eval, Array.replicate]) ?_
  simp only [if_true]
  refine wpS_of_wp ?_
  simp only [Array.replicate_succ, Array.replicate_zero, List.push_toArray, List.append_toArray, List.nil_append, List.cons_append, List.setIfInBounds_toArray, List.set_cons_zero, List.set_cons_succ, List.set_nil]
  have hta : ∀ W, (Instr.typeAssert (.iface 56 (.agg #[.int .i64 n, .int .i64 a])) 20 56 true).run Tryd.prog W = .ok (.tuple #[.agg #[.int .i64 n, .int .i64 a], .bool true]) W := fun W => by kernel_rfl
  obtain ⟨s0, h0⟩ := ho.h0
  obtain ⟨e0, h1⟩ := ho.h1
  obtain ⟨a0, h2⟩ := ho.h2
  have hz := heap_lt h2
  have H0 := Lib.hid (heap_old (.cells #[.int .i64 n, .int .i64 a] 56) h0)
  have H1 := Lib.hid (heap_old (.cells #[.int .i64 n, .int .i64 a] 56) h1)
  have H2 := Lib.hid (heap_old (.cells #[.int .i64 n, .int .i64 a] 56) h2)
  have HB : Below b w (w.alloc (.cells #[.int .i64 n, .int .i64 a] 56)) := (Below.refl _ _).alloc (by omega) _
  have HY := Lib.hid (heap_new w (.cells #[.int .i64 n, .int .i64 a] 56))
  clear h0 h1 h2 ho hu
  go_wp2_with fail
  generalize hW : w.alloc (.cells #[.int .i64 n, .int .i64 a] 56) = W1 at *
  clear hW
  have c0 := box_cell H0.out 0
  have c1 := box_cell H1.out 0
  have c2 := box_cell H2.out 0
  have y0 := box_cell HY.out 0
  have y1 := box_cell HY.out 1
  simp at c0 c1 c2 y0 y1
  have f0 := box_free H0.out 0
  have f1 := box_free H1.out 0
  have f2 := box_free H2.out 0
  go_region
  all_goals
    go_wp2
    simp [bodyPostS, results, Tryd.results21]
    refine ⟨(((HB.setCell (by simp) _).setCell (by simp) _).setCell (by simp) _).drew, ?_, ?_, ?_⟩
    · show ((World.setCell _ _ _).heap[b]?) = _
      rw [Below.heap_setCell _ _ _ _ (by simp), Below.heap_setCell _ _ _ _ (by simp), set_heap H0.out]
      rfl
    · show ((World.setCell _ _ _).heap[b + 1]?) = _
      have h1 : ((W1.setCell ⟨b, 0, none⟩ (.string ⟨#[]⟩))).heap[b + 1]? = _ := (Below.heap_setCell W1 ⟨b, 0, none⟩ (.string ⟨#[]⟩) (b + 1) (by simp)).trans H1.out
      rw [Below.heap_setCell _ _ _ _ (by simp), set_heap h1]
      rfl
    · show ((World.setCell _ _ _).heap[b + 2]?) = _
      have h1 : ((W1.setCell ⟨b, 0, none⟩ (.string ⟨#[]⟩))).heap[b + 2]? = _ := (Below.heap_setCell W1 ⟨b, 0, none⟩ (.string ⟨#[]⟩) (b + 2) (by simp)).trans H2.out
      have h2 : ((W1.setCell ⟨b, 0, none⟩ (.string ⟨#[]⟩)).setCell ⟨b + 1, 0, none⟩ (.int .i64 n)).heap[b + 2]? = _ := (Below.heap_setCell _ ⟨b + 1, 0, none⟩ (.int .i64 n) (b + 2) (by simp)).trans h1
      rw [set_heap h2]
      rfl
set_option maxRecDepth 100000 in
theorem catch_none (p q r : Addr) (w : World) :
    CallsD Tryd.prog 21 #[.pointer (some p), .pointer (some q), .pointer (some r)] .returning w fun e u' w' => e = .returned (.tuple #[]) ∧ u' = .returning ∧ w' = w := by
  refine callsD_of_wpS Tryd.func21 rfl fun c₀ cs hu => ?_
  apply wpS_seq
  apply wpS_region
  simp [wpOpsS, go_sem, recoverD, hu, Tryd.ntmps21, Exit.thenS]
  apply wpS_seq
  apply wpS_region
  simp [wpOpsS, go_sem, Exit.thenS]
  refine wpS_cond (t := false) (by simp [Act.eval, Array.replicate]) ?_
  simp only [Bool.false_eq_true, if_false]
  refine wpS_of_wp (wp_skip ?_)
  cases c₀
  simp_all [bodyPostS, results, Tryd.results21]
end Go.Proofs.YtbigllcononkbaaDoor
