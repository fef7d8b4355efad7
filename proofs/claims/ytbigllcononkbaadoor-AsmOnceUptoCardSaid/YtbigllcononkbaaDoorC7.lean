/- The library's numbers as this program asks for them; the walk of asm.fail. -/
import Derived.Test.YtbigllcononkbaaDoorC6
namespace Go.Proofs.YtbigllcononkbaaDoor
open Go Go.RowKit Go.Sort

theorem below_grow (w : World) (k : Nat) (os : Array Obj) : Below w.heap.size w (grow (w.drewN k) os) :=
  ⟨rfl, rfl, rfl, by simp [grow, World.drewN], fun i hi => by
    show (w.heap ++ os)[i]? = w.heap[i]?
    rw [Array.getElem?_append_left hi]⟩
theorem below_bytes (w : World) (e : TypeId) (s : ByteArray) : Below w.heap.size w (Lib.bytesWorld w e s) := by
  unfold Lib.bytesWorld
  refine ⟨rfl, rfl, rfl, ?_, fun i hi => ?_⟩
  · simp only [World.freeze]
    rw [if_neg (by decide), Array.size_modify]
    show w.heap.size ≤ (w.heap.push _).size
    simp
  · simp only [World.freeze]
    rw [if_neg (by decide)]
    simp only [Array.getElem?_modify]
    rw [if_neg (by omega)]
    exact Below.heap_alloc _ _ _ hi
theorem itoa_any (n : Int) (h0 : -9223372036854775808 ≤ n) (h1 : n ≤ 9223372036854775807) (w : World) (hE : Env w) :
    Calls Tryd.prog 16 #[.int .i64 n] w fun e w' => e = .returned (.string ⟨(Lib.itoa n).toArray⟩) ∧ Below w.heap.size w w' :=
  (Tryd.strconv_Itoa n h0 h1 w hE.pow).mono fun _ _ ⟨he, k, os, hw⟩ => ⟨he, hw ▸ below_grow w k os⟩
theorem format_any (n : Int) (h0 : -9223372036854775808 ≤ n) (h1 : n ≤ 9223372036854775807) (w : World) (hE : Env w) :
    Calls Tryd.prog 17 #[.int .i64 n, .int .i64 10] w fun e w' => e = .returned (.string ⟨(Lib.itoa n).toArray⟩) ∧ Below w.heap.size w w' :=
  (Tryd.strconv_FormatInt_10 n h0 h1 w hE.pow).mono fun _ _ ⟨he, k, os, hw⟩ => ⟨he, hw ▸ below_grow w k os⟩
theorem parse_ok (s : ByteArray) (v : Int) (h : Lib.parseIntB 64 s.data.toList = .ok v) (hs : s.size ≤ 1048576) (w : World) :
    Calls Tryd.prog 80 #[.string s, .int .i64 10, .int .i64 64] w fun e w' => e = .returned (.tuple #[.int .i64 v, .nilIface]) ∧ Below w.heap.size w w' :=
  (Tryd.strconv_ParseInt_10_at64_ok s (by omega) v h w).mono fun _ _ ⟨he, hw⟩ => ⟨he, by
    rcases hw with rfl | ⟨t, rfl⟩
    · exact Below.refl _ _
    · exact below_bytes _ _ _⟩
def ParseBad (w : World) (e : Ending) (w' : World) : Prop := ∃ n N, e = .returned (.tuple #[.int .i64 n, .iface 169 (.pointer (some ⟨N, 0, none⟩))]) ∧ Below w.heap.size w w'
theorem parse_bad (s : ByteArray) (h : ∀ v, Lib.parseIntB 64 s.data.toList ≠ .ok v) (hs : s.size ≤ 1048576) (w : World) (hE : Env w) :
    Calls Tryd.prog 80 #[.string s, .int .i64 10, .int .i64 64] w (ParseBad w) := by
  obtain ⟨tp, p, hv⟩ := hE.esyn
  obtain ⟨tp2, p2, hv2⟩ := hE.eran
  rcases hp : Lib.parseIntB 64 s.data.toList with v | _ | _
  · exact absurd hp (h v)
  · exact (Tryd.strconv_ParseInt_10_at64_syntax_var s (by omega) hp tp p w hv).mono fun _ _ ⟨N, he, _, _, hb⟩ => ⟨_, N, he, hb⟩
  · exact (Tryd.strconv_ParseInt_10_at64_range_var s (by omega) hp tp2 p2 w hv2).mono fun _ _ ⟨N, he, _, _, hb⟩ => ⟨_, N, he, hb⟩
set_option maxHeartbeats 400000 in
theorem fail_any (e a : Int) (w : World) :
    Calls Tryd.prog 25 #[.int .i64 e, .int .i64 a] w fun r w' => r = .panicked [{ v := .iface 56 (.agg #[.int .i64 e, .int .i64 a]), recovered := false }] ∧ w' = w := by
  go_enter Tryd.func25, Tryd.ntmps25
  go_wp2
  exact ⟨rfl, rfl, rfl⟩
end Go.Proofs.YtbigllcononkbaaDoor
