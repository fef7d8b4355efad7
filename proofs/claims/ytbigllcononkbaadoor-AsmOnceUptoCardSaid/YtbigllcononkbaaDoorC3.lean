/- The walk of code.Decode. -/
import Derived.Test.YtbigllcononkbaaDoorC2
import Derived.Test.YtbigllcononkbaaDoorU1
namespace Go.Proofs.YtbigllcononkbaaDoor
open Go Go.RowKit

theorem Tab.below {w w' : World} (h : Tab w) (hb : Below w.heap.size w w') : Tab w' := fun c hc => by
  have := h c hc
  rw [hb.cell (World.block_lt_of_cell? _ _ this)]
  exact this
/-- Instructions as cells. -/
def cellsI (xs : List Ins) : List Value := xs.flatMap fun x => [.int .i64 x.c, .int .i64 x.o]
theorem cellsI_snoc (xs : List Ins) (x : Ins) : cellsI (xs ++ [x]) = cellsI xs ++ [.int .i64 x.c, .int .i64 x.o] := by simp [cellsI]
theorem infoOp : (Tryd.prog.info? 35).map (fun i => (i.zero, i.size, i.bytes)) = some (some (.agg #[.int .i64 0, .int .i64 0]), 2, 16) := by kernel_rfl

/-- What Decode answers, told of the world behind it. -/
def DecPost (w : World) (l : List UInt8) (e : Ending) (w' : World) : Prop :=
  Below w.heap.size w w' ∧
  if 512 < l.length then e = .returned (.tuple #[.slice none 0 0, .int .i64 2, .int .i64 0])
  else match decF l with
    | none => ∃ k : Int, e = .returned (.tuple #[.slice none 0 0, .int .i64 10, .int .i64 k])
    | some xs => ∃ v, e = .returned (.tuple #[v, .int .i64 0, .int .i64 0]) ∧ w'.ownsRow w.heap.size 35 2 v xs.length (cellsI xs)

set_option maxRecDepth 100000 in
set_option maxHeartbeats 1600000 in
theorem decode_any (s : ByteArray) (w : World) (hs : s.size ≤ 140737488351232) (hT : Tab w) :
    Calls Tryd.prog 9 #[.string s] w (DecPost w s.data.toList) := by
  obtain ⟨i0, hi, hz0, hz1, hz2⟩ := info_parts infoOp
  have HT := Lib.hid hT
  clear hT
  by_cases h512 : 512 < s.size
  · go_enter Tryd.func9, Tryd.ntmps9
    go_wp2
    go_ret3
    exact ⟨Below.refl _ _, by rw [if_pos (by simpa using h512)]; rfl⟩
  · have hle : ¬ 512 < s.data.toList.length := by simpa using h512
    go_enter Tryd.func9, Tryd.ntmps9
    go_wp2
    go_loopw [5, 6] (fun l at' wr => ∃ (k : Nat) (pre : List Ins), at' = .int .i64 k ∧ k ≤ s.size ∧ pre.length ≤ k ∧ Hid (decF s.data.toList = (decF (s.data.toList.drop k)).map (pre ++ ·)) ∧
      Hid (wr.ownsRow w.heap.size 35 2 l pre.length (cellsI pre)) ∧ Below w.heap.size w wr) (fun _ k _ => s.size - (intOf k).toNat)
    case atStart => exact ⟨0, [], rfl, by omega, by simp, by show decF _ = _; simp, World.ownsRow_nil _ _ _ _, Below.refl _ _⟩
    case round =>
      obtain ⟨k, pre, rfl, hk, hpre, HD, HO, hbel⟩ := hrel
      by_cases hlt : k < s.size
      · have hTr := HT.out.below hbel
        cases ha : atF (s.data.toList.drop k) with
        | none =>
          have HA := Lib.hid ha
          clear ha
          go_wp2_with (first | (go_at_call 31; refine (at_any _ _ _ hs hTr).mono ?_; rw [HA.out, atV]; rintro e w' ⟨rfl, hb⟩))
          go_ret3
          refine ⟨hbel.trans ((hb.alloc hb.size _).mono hbel.size), ?_⟩
          rw [if_neg hle]
          have e : decF s.data.toList = none := by rw [HD.out, drop_cons s k hlt, decF_cons, ← drop_cons s k hlt, HA.out]; rfl
          rw [e]
          exact ⟨k, rfl⟩
        | some x =>
          have HA := Lib.hid ha
          have hx := enc_of_atF _ _ ha
          have hxl : x.len ≤ s.size - k := by have := hx.2.1; simpa using this
          have hxp := len_pos x
          clear hx ha
          have HO' := HO.out
          go_wp2_with (first | (go_at_call 31; refine (at_any _ _ _ hs hTr).mono ?_; rw [HA.out, atV]; rintro e w' ⟨rfl, hb⟩; clear HO'; have hO1 := own_below HO.out hb) | (at_builtin; refine wpList_append_own _ rfl _ _ 25 rfl w.heap.size 35 i0 _ 2 16 Tryd.underlying25 hi hz0 hz1 hz2 rfl (by decide) _ _ _ rfl ((hO1.alloc _).alloc _) ⟨w'.heap.size + 1, 0, none⟩ 1 1 [.int .i64 x.c, .int .i64 x.o] rfl rfl ?c1 ?c2 ?c3 ?c4 ?c5 ?_))
          case c1 => exact fun j u => new_cells _ _ _ _ (by simp) j u
          case c2 => intro u hu; simp at hu; rcases hu with rfl | rfl <;> rfl
          case c3 => unfold maxLen; omega
          case c4 => omega
          case c5 => have := hbel.size; have := hb.size; simp; omega
          intro v' w1 hO2 hg _
          have hb2 : Below w.heap.size w w1 := (((hbel.trans (hb.mono hbel.size)).alloc (Nat.le_trans hbel.size hb.size) _).alloc (by have := hbel.size; have := hb.size; simp; omega) _).grown hg (by have := hbel.size; have := hb.size; simp; omega) (fun g hgo => by
            rcases own_form HO.out with ⟨rfl, _⟩ | ⟨g', cap', rfl, h1, _⟩
            · cases hgo
            · cases hgo; exact h1)
          clear hg hb hO1
          have HO2 := Lib.hid hO2
          clear hO2
          go_wp2
          go_roundw
          case rel =>
            refine ⟨k + x.len, pre ++ [x], by go_num, by omega, by simp; omega, ?_, ?_, hb2⟩
            · show decF _ = _
              rw [HD.out, drop_cons s k hlt, decF_cons, ← drop_cons s k hlt, HA.out]
              simp only [Option.bind_some, List.drop_drop, Option.map_map]
              congr 1
              funext ys
              simp
            · show World.ownsRow _ _ _ _ _ _ _
              rw [cellsI_snoc]
              simpa using HO2.out
          case measure => simp [intOf]; omega
      · go_wp2
        go_ret3
        refine ⟨hbel, ?_⟩
        rw [if_neg hle]
        have e : decF s.data.toList = some pre := by rw [HD.out, List.drop_eq_nil_of_le (by simp; omega), decF_nil]; simp
        rw [e]
        exact ⟨_, rfl, HO.out⟩
end Go.Proofs.YtbigllcononkbaaDoor
