/- The doors of asm.Parse: what its deferred call leaves. -/
import Derived.Test.YtbigllcononkbaaDoorD2
namespace Go.Proofs.YtbigllcononkbaaDoor
open Go Go.RowKit

theorem parse_results (tmps : Array Value) (w : World) (b : Nat) (s : ByteArray) (n a : Int) (h2 : tmps[2]? = some (.pointer (some ⟨b, 0, none⟩))) (h3 : tmps[3]? = some (.pointer (some ⟨b + 1, 0, none⟩))) (h4 : tmps[4]? = some (.pointer (some ⟨b + 2, 0, none⟩)))
    (k0 : w.heap[b]? = some (.cells #[.string s] 9 (0, 0))) (k1 : w.heap[b + 1]? = some (.cells #[.int .i64 n] 22 (0, 0))) (k2 : w.heap[b + 2]? = some (.cells #[.int .i64 a] 3 (0, 0))) :
    (results Tryd.f7 tmps).run Tryd.prog w = .ok (.tuple #[.string s, .int .i64 n, .int .i64 a]) w := by
  have c0 := box_cell k0 0
  have c1 := box_cell k1 0
  have c2 := box_cell k2 0
  simp at c0 c1 c2
  simp [results, Tryd.results7, go_sem, h2, h3, h4, c0, c1, c2]
set_option maxRecDepth 100000 in
theorem door_fault (w w2 : World) (b : Nat) (n a : Int) (tmps : Array Value) (R : Ending → World → Prop) (ho : Outs w2 b) (hb : Below b w w2)
    (h2 : tmps[2]? = some (.pointer (some ⟨b, 0, none⟩))) (h3 : tmps[3]? = some (.pointer (some ⟨b + 1, 0, none⟩))) (h4 : tmps[4]? = some (.pointer (some ⟨b + 2, 0, none⟩)))
    (hR : ∀ w', Below b w w' → R (.returned (.tuple #[.string ⟨#[]⟩, .int .i64 n, .int .i64 a])) w') :
    Leaves Tryd.prog Tryd.f7 tmps R [{ target := .fn (Fn.func 21) #[.pointer (some ⟨b, 0, none⟩), .pointer (some ⟨b + 1, 0, none⟩), .pointer (some ⟨b + 2, 0, none⟩)], args := #[] }]
      (.panicking [{ v := .iface 56 (.agg #[.int .i64 n, .int .i64 a]), recovered := false }]) w2 := by
  refine leaves_cons (f := 21) (args := #[.pointer (some ⟨b, 0, none⟩), .pointer (some ⟨b + 1, 0, none⟩), .pointer (some ⟨b + 2, 0, none⟩)]) (by simp) rfl ?_
  refine (catch_fault b n a w2 ho).mono ?_
  rintro e u' w' ⟨rfl, rfl, hb2, k0, k1, k2⟩
  exact ⟨_, parse_results tmps w' b _ n a h2 h3 h4 k0 k1 k2, hR _ (hb.trans hb2)⟩
set_option maxRecDepth 100000 in
theorem door_ok (w : World) (b : Nat) (s : ByteArray) (n a : Int) (tmps : Array Value) (R : Ending → World → Prop)
    (h2 : tmps[2]? = some (.pointer (some ⟨b, 0, none⟩))) (h3 : tmps[3]? = some (.pointer (some ⟨b + 1, 0, none⟩))) (h4 : tmps[4]? = some (.pointer (some ⟨b + 2, 0, none⟩)))
    (k0 : w.heap[b]? = some (.cells #[.string s] 9 (0, 0))) (k1 : w.heap[b + 1]? = some (.cells #[.int .i64 n] 22 (0, 0))) (k2 : w.heap[b + 2]? = some (.cells #[.int .i64 a] 3 (0, 0)))
    (hR : R (.returned (.tuple #[.string s, .int .i64 n, .int .i64 a])) w) :
    Leaves Tryd.prog Tryd.f7 tmps R [{ target := .fn (Fn.func 21) #[.pointer (some ⟨b, 0, none⟩), .pointer (some ⟨b + 1, 0, none⟩), .pointer (some ⟨b + 2, 0, none⟩)], args := #[] }] .returning w := by
  refine leaves_cons (f := 21) (args := #[.pointer (some ⟨b, 0, none⟩), .pointer (some ⟨b + 1, 0, none⟩), .pointer (some ⟨b + 2, 0, none⟩)]) (by simp) rfl ?_
  refine (catch_none _ _ _ w).mono ?_
  rintro e u' w' ⟨rfl, rfl, rfl⟩
  exact ⟨_, parse_results tmps w' b _ n a h2 h3 h4 k0 k1 k2, hR⟩
end Go.Proofs.YtbigllcononkbaaDoor
