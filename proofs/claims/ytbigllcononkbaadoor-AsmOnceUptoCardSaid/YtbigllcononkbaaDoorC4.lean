/- The walk of code.Encode. -/
import Derived.Test.YtbigllcononkbaaDoorC3
namespace Go.Proofs.YtbigllcononkbaaDoor
open Go Go.RowKit

/-- What Encode answers: the bytes, or the first error. -/
def encR : List Ins → List UInt8 → Except Int (List UInt8)
  | [], acc => .ok acc
  | x :: xs, acc => if fitsB (shapeN x.c) x.o = true then (if 512 < (acc ++ x.enc).length then .error 2 else encR xs (acc ++ x.enc)) else .error 12
/-- A slice that reads as these instructions. -/
def OpsAt (w : World) (v : Value) (xs : List Ins) : Prop :=
  xs.length ≤ 1048576 ∧ (∀ x ∈ xs, x.c < 41 ∧ x.in64) ∧
  ((v = .slice none 0 0 ∧ xs = []) ∨ ∃ g cap, v = .slice (some ⟨g, 0, none⟩) xs.length cap ∧ g < w.heap.size ∧
    ∀ i x, xs[i]? = some x → w.cell? ⟨g, i * 2, none⟩ = some (.int .i64 x.c) ∧ w.cell? ⟨g, i * 2 + 1, none⟩ = some (.int .i64 x.o))
theorem OpsAt.below {w w' : World} {v : Value} {xs : List Ins} (h : OpsAt w v xs) (hb : Below w.heap.size w w') : OpsAt w' v xs := by
  obtain ⟨h0, h1, h2⟩ := h
  refine ⟨h0, h1, ?_⟩
  rcases h2 with h2 | ⟨g, cap, hv, hg, hc⟩
  · exact .inl h2
  · refine .inr ⟨g, cap, hv, Nat.lt_of_lt_of_le hg hb.size, fun i x hx => ?_⟩
    rw [hb.cell hg, hb.cell hg]
    exact hc i x hx
/-- Bytes as cells. -/
def bv (l : List UInt8) : List Value := l.map fun b => .int .u8 (b.toNat : Int)
theorem infoByte : (Tryd.prog.info? 5).map (fun i => (i.zero, i.size, i.bytes)) = some (some (.int .u8 0), 1, 1) := by kernel_rfl
theorem bv_length (l : List UInt8) : (bv l).length = l.length := by simp [bv]
/-- A row of bytes of the call's own, as a text. -/
theorem run_string_own (w : World) (B : Nat) (v : Value) (l : List UInt8) (h : w.ownsRow B 5 1 v l.length (bv l)) :
    (convert 41 9 v).run Tryd.prog w = .ok (.string ⟨l.toArray⟩) w := by
  rcases own_form h with ⟨rfl, h0⟩ | ⟨g, cap, rfl, h1, h2, h3, h4⟩
  · have : l = [] := List.length_eq_zero_iff.1 h0
    subst this
    exact run_convert_bytes_nil w _ _ Tryd.underlying41 Tryd.underlying5 0 0 _ Tryd.underlying9
  · have e := run_convert_bytes_arg (P := Tryd.prog) w _ _ Tryd.underlying41 Tryd.underlying5 g 0 l.length cap (l.map fun b => (b.toNat : Int)) (by simp) (fun i hi => by
      rw [Nat.zero_add, own_cell h i (by simpa [bv_length] using hi)]
      simp [bv, List.getD, hi]) _ Tryd.underlying9
    rw [e]
    have : strOfNums (l.map fun b => (b.toNat : Int)) = ⟨l.toArray⟩ := by
      simp [strOfNums, Function.comp_def]
    rw [this]
theorem leB_get : ∀ (W : Nat) (o : Int) (j : Nat), j < W → (leB W o).take (j + 1) = (leB W o).take j ++ [UInt8.ofNat ((o / (256 : Int) ^ j) % 256).toNat]
  | W + 1, o, 0, _ => by simp [leB]
  | W + 1, o, j + 1, h => by
    simp only [leB, List.take_succ_cons, List.cons_append]
    rw [leB_get W (o / 256) j (by omega)]
    have e : o / 256 / (256 : Int) ^ j = o / (256 : Int) ^ (j + 1) := by
      rw [Int.ediv_ediv_of_nonneg (by omega), Int.pow_succ, Int.mul_comm]
    rw [e]
theorem shr_byte (o : Int) (j : Nat) (hj : j < 8) : IntKind.u64.wrap o / 2 ^ (8 * j) % 256 = ((UInt8.ofNat ((o / (256 : Int) ^ j) % 256).toNat).toNat : Int) := by
  have h0 : 0 ≤ (o / (256 : Int) ^ j) % 256 := Int.emod_nonneg _ (by omega)
  have h1 : (o / (256 : Int) ^ j) % 256 < 256 := Int.emod_lt_of_pos _ (by omega)
  rw [UInt8.toNat_ofNat_of_lt' (by simp only [UInt8.size]; omega), Int.toNat_of_nonneg h0]
  simp only [IntKind.wrap, IntKind.bits, IntKind.signed]
  obtain rfl | rfl | rfl | rfl | rfl | rfl | rfl | rfl : j = 0 ∨ j = 1 ∨ j = 2 ∨ j = 3 ∨ j = 4 ∨ j = 5 ∨ j = 6 ∨ j = 7 := by omega
  all_goals simp
  all_goals omega
def EncPost (w : World) (xs : List Ins) (e : Ending) (w' : World) : Prop :=
  Below w.heap.size w w' ∧
  match encR xs [] with
  | .error n => ∃ k : Int, e = .returned (.tuple #[.string ⟨#[]⟩, .int .i64 n, .int .i64 k])
  | .ok l => e = .returned (.tuple #[.string ⟨l.toArray⟩, .int .i64 0, .int .i64 0])

set_option maxRecDepth 100000 in
set_option maxHeartbeats 1600000 in
theorem encode_some (g cap : Nat) (xs : List Ins) (w : World) (hO : OpsAt w (.slice (some ⟨g, 0, none⟩) xs.length cap) xs) (hT : Tab w) :
    Calls Tryd.prog 26 #[.slice (some ⟨g, 0, none⟩) xs.length cap] w (EncPost w xs) := by
  obtain ⟨i0, hi, hz0, hz1, hz2⟩ := info_parts infoByte
  have HT := Lib.hid hT
  have HX := Lib.hid hO
  have hlen := hO.1
  clear hT hO
  go_enter Tryd.func26, Tryd.ntmps26
  go_wp2
  go_loopw [5, 12] (fun b i wr => ∃ (k : Nat) (acc : List UInt8), i = .int .i64 k ∧ k ≤ xs.length ∧ acc.length ≤ 512 ∧ Hid (encR xs [] = encR (xs.drop k) acc) ∧
      Hid (wr.ownsRow w.heap.size 5 1 b acc.length (bv acc)) ∧ Below w.heap.size w wr) (fun _ i _ => xs.length - (intOf i).toNat)
  case atStart => exact ⟨0, [], rfl, by omega, by simp, rfl, World.ownsRow_nil _ _ _ _, Below.refl _ _⟩
  case round =>
    obtain ⟨k, acc, rfl, hk, hacc, HE, HB, hbel⟩ := hrel
    by_cases hlt : k < xs.length
    · obtain ⟨wo, rfl⟩ : ∃ wo : World, wo = wr := ⟨_, rfl⟩
      have hTr := HT.out.below hbel
      have hOr := HX.out.below hbel
      obtain ⟨x, hx⟩ : ∃ x, xs[k]? = some x := ⟨xs[k], List.getElem?_eq_getElem hlt⟩
      obtain ⟨_, h41, hOO⟩ := hOr
      obtain ⟨hx41, hx64⟩ := h41 x (List.mem_of_getElem? hx)
      rcases hOO with ⟨h, _⟩ | ⟨g', cap', h, hg, hcs⟩
      · cases h
      · cases h
        obtain ⟨hc1, hc2⟩ := hcs k x hx
        have hsh := hTr x.c hx41
        have hz := World.block_lt_of_cell? _ _ hsh
        simp only at hz
        clear hcs h41 hTr
        have hx41' : (x.c : Int) < 41 := by omega
        have d1 : decide ((41 : Int) ≤ x.c) = false := by simpa using hx41'
        have d2 : decide ((x.c : Int) < 0) = false := by simp
        have d3 : IntKind.u8.wrap (x.c : Int) = x.c := by simp [IntKind.wrap, IntKind.bits, IntKind.signed]; omega
        have hd : xs.drop k = x :: xs.drop (k + 1) := by
          rw [List.drop_eq_getElem_cons hlt]
          rw [List.getElem?_eq_getElem hlt] at hx
          rw [Option.some.inj hx]
        have HDr := Lib.hid hd
        clear hd hx
        cases hf : fitsB (shapeN x.c) x.o
        · have HF := Lib.hid hf
          clear hf
          go_wp2_with (first | (go_at_call 45; refine (fits_any _ _ _).mono ?_; rw [HF.out]; rintro e w' ⟨rfl, rfl⟩))
          go_ret3
          refine ⟨hbel.alloc hbel.size _, ?_⟩
          rw [HE.out, HDr.out, encR, HF.out]
          exact ⟨k, rfl⟩
        · have HF := Lib.hid hf
          clear hf
          have HB1 := HB.out.alloc (.cells #[.int .i64 x.c, .int .i64 x.o] 35)
          go_wp2_with (first | (go_at_call 45; refine (fits_any _ _ _).mono ?_; rw [HF.out]; rintro e w' ⟨rfl, rfl⟩) | (at_builtin; refine wpList_append_own _ rfl _ _ 41 rfl w.heap.size 5 i0 _ 1 1 Tryd.underlying41 hi hz0 hz1 hz2 rfl (by decide) _ _ _ rfl (HB1.alloc _) ⟨wo.heap.size + 1, 0, none⟩ 1 1 [.int .u8 x.c] rfl rfl ?c1 ?c2 ?c3 ?c4 ?c5 ?_))
          case c1 => exact fun j u => new_cells _ _ _ _ (by simp) j u
          case c2 => intro u hu; simp at hu; subst hu; rfl
          case c3 => unfold maxLen; omega
          case c4 => omega
          case c5 => have := hbel.size; simp; omega
          intro v1 w1 hO1 hg _
          have hs1 := hbel.size
          have hw8 : widthN (shapeN x.c) ≤ 8 := by have := widthN_cases (shapeN x.c); omega
          have hb1 : Below w.heap.size w w1 := grown_below HB.out ((hbel.alloc hbel.size _).alloc (by simp; omega) _) (by simp; omega) hg
          have hbox : w1.heap[wo.heap.size]? = some (.cells #[.int .i64 x.c, .int .i64 x.o] 35 (0, 0)) := by
            have H := heap_old (.cells #[.int .u8 x.c] 5) (heap_new wo (.cells #[.int .i64 x.c, .int .i64 x.o] 35))
            rw [hg.block _ (heap_lt H) (own_ne_box (HB1.alloc _) H (by decide))]
            exact H
          have hz1' : wo.heap.size < w1.heap.size := heap_lt hbox
          have hO1' : w1.ownsRow w.heap.size 5 1 v1 (acc.length + 1 + 0) (bv (acc ++ [UInt8.ofNat x.c])) := by
            have : bv (acc ++ [UInt8.ofNat x.c]) = bv acc ++ [Value.int .u8 x.c] := by
              simp [bv]; omega
            rw [this]
            exact hO1
          clear hO1 hg HB1 HB hsh
          have HB := Lib.hid hO1'
          clear hO1'
          go_wp2_with (first | (go_at_call 46; refine (width_any _ _).mono ?_; rintro e w' ⟨rfl, rfl⟩))
          go_loopw [5, 9, 44] (fun b _ i wi => ∃ (j : Nat), i = .int .i64 j ∧ j ≤ widthN (shapeN x.c) ∧ 
            Hid (wi.ownsRow w.heap.size 5 1 b (acc.length + 1 + j) (bv (acc ++ (UInt8.ofNat x.c :: (leB (widthN (shapeN x.c)) x.o).take j)))) ∧ Below w.heap.size w wi ∧ Hid (wi.heap[wo.heap.size]? = some (.cells #[.int .i64 x.c, .int .i64 x.o] 35 (0, 0)))) (fun _ _ i _ => widthN (shapeN x.c) - (intOf i).toNat)
          case atStart => exact ⟨0, rfl, by omega, HB.out, hb1, hbox⟩
          case round =>
            obtain ⟨j, rfl, hj, HBi, hbi, HX1⟩ := hrel
            have hzi : wo.heap.size < _ := heap_lt HX1.out
            have hboxi := box_cell HX1.out 1
            simp only [List.getElem?_toArray, List.getElem?_cons_succ, List.getElem?_cons_zero] at hboxi
            clear hbox hz1'
            by_cases hjlt : j < widthN (shapeN x.c)
            · have HBi1 := HBi.out
              have hbi2 := hbi.size
              go_wp2_with ((at_builtin; refine wpList_append_own _ rfl _ _ 41 rfl w.heap.size 5 i0 _ 1 1 Tryd.underlying41 hi hz0 hz1 hz2 rfl (by decide) _ _ _ rfl (HBi1.alloc _) ⟨wr.heap.size, 0, none⟩ 1 1 [.int .u8 (IntKind.u64.wrap x.o / 2 ^ (8 * j) % 256)] rfl rfl ?d1 ?d2 ?d3 ?d4 ?d5 ?_))
              case d1 => exact fun j u => new_cells _ _ _ _ rfl j u
              case d2 => intro u hu; simp at hu; subst hu; rfl
              case d3 => unfold maxLen; omega
              case d4 => omega
              case d5 => simp; omega
              intro v2 w2 hO2 hg2 _
              have hb2 : Below w.heap.size w w2 := grown_below HBi1 (hbi.alloc hbi2 _) (by simp; omega) hg2
              have hbox2 : w2.heap[wo.heap.size]? = some (.cells #[.int .i64 x.c, .int .i64 x.o] 35 (0, 0)) := by
                have H := heap_old (.cells #[.int .u8 (IntKind.u64.wrap x.o / 2 ^ (8 * j) % 256)] 5) HX1.out
                rw [hg2.block _ (heap_lt H) (own_ne_box (HBi1.alloc _) H (by decide))]
                exact H
              have HO2 := Lib.hid hO2
              clear hO2 hg2 HBi1
              go_wp2
              go_roundw
              case rel =>
                refine ⟨j + 1, by go_num, by omega, ?_, hb2, hbox2⟩
                show World.ownsRow _ _ _ _ _ _ _
                rw [leB_get _ _ _ hjlt]
                have := HO2.out
                rw [shr_byte _ _ (by omega)] at this
                simpa [bv, Nat.add_assoc] using this
              case measure => simp [intOf]; omega
            · obtain rfl : j = widthN (shapeN x.c) := by omega
              rcases own_form HBi.out with ⟨_, h⟩ | ⟨g5, cap5, rfl, h1, h2, h3, h4⟩
              · omega
              · have HN := HBi.out
                have hcap5 : acc.length + 1 + widthN (shapeN x.c) ≤ 1048576 := by omega
                by_cases h512 : 512 < acc.length + 1 + widthN (shapeN x.c)
                · go_wp2
                  go_ret3
                  refine ⟨hbi, ?_⟩
                  rw [HE.out, HDr.out, encR, HF.out, if_pos rfl, if_pos (by rw [List.length_append, enc_length]; unfold Ins.len Ins.w; omega)]
                  exact ⟨k, rfl⟩
                · have HN2 := Lib.hid HN
                  clear HN
                  go_wp2
                  refine ⟨⟨k + 1, acc ++ x.enc, by go_num, by omega, by rw [List.length_append, enc_length]; unfold Ins.len Ins.w; omega, ?_, ?_, hbi⟩, ?_⟩
                  · show encR _ _ = _
                    rw [HE.out, HDr.out, encR, HF.out, if_pos rfl, if_neg (by rw [List.length_append, enc_length]; unfold Ins.len Ins.w; omega)]
                  · show World.ownsRow _ _ _ _ _ _ _
                    rw [List.length_append, enc_length]
                    have e : (leB (widthN (shapeN x.c)) x.o).take (widthN (shapeN x.c)) = leB (widthN (shapeN x.c)) x.o := List.take_of_length_le (by simp [leB_length])
                    have := HN2.out
                    rw [e] at this
                    simpa [Ins.len, Ins.w, Ins.enc, Nat.add_assoc] using this
                  · simp [intOf]; omega
    · have HC := run_string_own wr w.heap.size _ acc HB.out
      go_wp2
      go_ret3
      refine ⟨hbel, ?_⟩
      rw [HE.out, List.drop_eq_nil_of_le (by omega), encR]
      rfl
set_option maxRecDepth 100000 in
set_option maxHeartbeats 1600000 in
theorem encode_nil (w : World) : Calls Tryd.prog 26 #[.slice none 0 0] w (EncPost w []) := by
  have HC := run_convert_bytes_nil (P := Tryd.prog) w 41 5 Tryd.underlying41 Tryd.underlying5 0 0 9 Tryd.underlying9
  go_enter Tryd.func26, Tryd.ntmps26
  go_wp2
  go_loop [5, 12] (fun b i => b = .slice none 0 0 ∧ i = .int .i64 0) (fun _ _ => 0)
  case atStart => exact ⟨rfl, rfl⟩
  case round =>
    obtain ⟨rfl, rfl⟩ := hrel
    go_wp2
    go_ret3
    exact ⟨Below.refl _ _, rfl⟩
/-- code.Encode. -/
theorem encode_any (v : Value) (xs : List Ins) (w : World) (hO : OpsAt w v xs) (hT : Tab w) : Calls Tryd.prog 26 #[v] w (EncPost w xs) := by
  obtain ⟨_, _, h | ⟨g, cap, rfl, _⟩⟩ := id hO
  · obtain ⟨rfl, rfl⟩ := h
    exact encode_nil w
  · exact encode_some g cap xs w hO hT
theorem encR_ok : ∀ (xs : List Ins) (acc : List UInt8), (∀ x ∈ xs, x.ok) → (acc ++ encAll xs).length ≤ 512 → encR xs acc = .ok (acc ++ encAll xs)
  | [], acc, _, _ => by simp [encR, encAll]
  | x :: xs, acc, h, hl => by
    have e : encAll (x :: xs) = x.enc ++ encAll xs := rfl
    rw [e, ← List.append_assoc] at hl ⊢
    rw [encR, if_pos (h x List.mem_cons_self).2, if_neg (by rw [List.length_append] at hl; omega), encR_ok xs _ (fun y hy => h y (List.mem_cons_of_mem _ hy)) hl]
end Go.Proofs.YtbigllcononkbaaDoor
