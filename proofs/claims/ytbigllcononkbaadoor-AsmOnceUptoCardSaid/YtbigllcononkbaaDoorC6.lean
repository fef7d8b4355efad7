/- What the library's variables hold (Env), and the walk of asm.tokens. -/
import Derived.Test.YtbigllcononkbaaDoorC5
import Derived.Test.YtbigllcononkbaaDoorL3
import Derived.Test.YtbigllcononkbaaDoorShelf
import Derived.WalkSmall
namespace Go.Proofs.YtbigllcononkbaaDoor
open Go Go.RowKit

/-- What the variables hold that the code reads. -/
structure Env (w : World) : Prop where
  big : 11 < w.heap.size
  tab : Tab w
  maxlen : ∃ m : Int, w.cell? ⟨4, 0, none⟩ = some (.int .i64 m)
  pow : Lib.TabIs Tryd.prog w "internal/strconv.uint64pow10" .u64 Lib.pow10Tab
  asc : Lib.TabIs Tryd.prog w "strings.asciiSpace" .u8 Lib.asciiSpaceTab
  esyn : ∃ tp p, w.var? Tryd.prog "strconv.ErrSyntax" = some #[.iface tp p]
  eran : ∃ tp p, w.var? Tryd.prog "strconv.ErrRange" = some #[.iface tp p]
theorem var_below {w w' : World} {n : String} {g : Nat} (hg : Tryd.prog.globalNamed n = some g) (hb : w'.heap[g]? = w.heap[g]?) : w'.var? Tryd.prog n = w.var? Tryd.prog n := by
  simp only [World.var?, hg, Option.bind_some, hb]
theorem gPow : Tryd.prog.globalNamed "internal/strconv.uint64pow10" = some 3 := by kernel_rfl
theorem gAsc : Tryd.prog.globalNamed "strings.asciiSpace" = some 0 := by kernel_rfl
theorem gSyn : Tryd.prog.globalNamed "strconv.ErrSyntax" = some 9 := by kernel_rfl
theorem gRan : Tryd.prog.globalNamed "strconv.ErrRange" = some 10 := by kernel_rfl
/-- Blocks below a number that are as they were keep it. -/
theorem Env.of_blocks {w w' : World} (h : Env w) (hz : w.heap.size ≤ w'.heap.size) (hb : ∀ k, k ≤ 11 → w'.heap[k]? = w.heap[k]?) : Env w' where
  big := Nat.lt_of_lt_of_le h.big hz
  tab := fun c hc => by
    rw [World.cell?_of_block (hb _ (by simp))]
    exact h.tab c hc
  maxlen := by
    obtain ⟨m, hm⟩ := h.maxlen
    exact ⟨m, by rw [World.cell?_of_block (hb _ (by simp))]; exact hm⟩
  pow := by
    have := h.pow
    unfold Lib.TabIs at *
    rw [var_below gPow (hb _ (by simp))]; exact this
  asc := by
    have := h.asc
    unfold Lib.TabIs at *
    rw [var_below gAsc (hb _ (by simp))]; exact this
  esyn := by rw [var_below gSyn (hb _ (by simp))]; exact h.esyn
  eran := by rw [var_below gRan (hb _ (by simp))]; exact h.eran
theorem Env.below {w w' : World} {B : Nat} (h : Env w) (hb : Below B w w') (hB : 11 < B) : Env w' :=
  h.of_blocks hb.size fun k hk => hb.block k (by omega)
theorem Env.grown {w w' : World} (h : Env w) (hb : Below w.heap.size w w') : Env w' := h.below hb h.big
theorem infoTok : (Tryd.prog.info? 68).map (fun i => (i.zero, i.size, i.bytes)) = some (some (.agg #[.string ⟨#[]⟩, .int .i64 0]), 2, 24) := by kernel_rfl
/-- Tokens as cells, their places from a place on. -/
def cellsT (a : Int) (ts : List (List UInt8 × Nat)) : List Value := ts.flatMap fun t => [.string ⟨t.1.toArray⟩, .int .i64 (a + t.2)]
theorem cellsT_snoc (a : Int) (ts : List (List UInt8 × Nat)) (t : List UInt8 × Nat) : cellsT a (ts ++ [t]) = cellsT a ts ++ [.string ⟨t.1.toArray⟩, .int .i64 (a + t.2)] := by simp [cellsT]

/-- How far the tokens are read. -/
structure TkRel (l : List UInt8) (k : Nat) (fr : Int) (cur : List UInt8) (pre : List (List UInt8 × Nat)) : Prop where
  go : k ≤ l.length → tk 0 [] l = pre ++ tk k cur (l.drop k)
  done : k = l.length + 1 → tk 0 [] l = pre
  nil : cur = [] → fr = -1
  some : cur ≠ [] → ∃ f : Nat, fr = f ∧ f + cur.length = k ∧ k ≤ l.length ∧ cur = (l.drop f).take cur.length
theorem TkRel.start (l : List UInt8) : TkRel l 0 (-1) [] [] := ⟨fun _ => rfl, fun h => by omega, fun _ => rfl, fun h => absurd rfl h⟩
theorem TkRel.gap_nil {l : List UInt8} {k : Nat} {pre : List (List UInt8 × Nat)} (h : TkRel l k (-1) [] pre) (hk : k ≤ l.length) (hg : ∀ b, l[k]? = Option.some b → gapB b = true) : TkRel l (k + 1) (-1) [] pre := by
  have e := h.go hk
  refine ⟨fun hk1 => ?_, fun hk1 => ?_, fun _ => rfl, fun h => absurd rfl h⟩
  · rw [e, List.drop_eq_getElem_cons (by omega), tk, if_pos (hg _ (List.getElem?_eq_getElem _)), if_pos rfl]
  · rw [e, List.drop_eq_nil_of_le (by omega), tk, if_pos rfl, List.append_nil]
theorem TkRel.gap_some {l : List UInt8} {k f : Nat} {cur : List UInt8} {pre : List (List UInt8 × Nat)} (h : TkRel l k f cur pre) (hc : cur ≠ []) (hk : k ≤ l.length) (hf : f + cur.length = k) (hg : ∀ b, l[k]? = Option.some b → gapB b = true) : TkRel l (k + 1) (-1) [] (pre ++ [(cur, f)]) := by
  have e := h.go hk
  have ef : k - cur.length = f := by omega
  refine ⟨fun hk1 => ?_, fun hk1 => ?_, fun _ => rfl, fun h => absurd rfl h⟩
  · rw [e, List.drop_eq_getElem_cons (by omega), tk, if_pos (hg _ (List.getElem?_eq_getElem _)), if_neg hc, ef]
    simp
  · rw [e, List.drop_eq_nil_of_le (by omega), tk, if_neg hc, ef]
theorem TkRel.next {l : List UInt8} {k : Nat} {fr : Int} {cur : List UInt8} {pre : List (List UInt8 × Nat)} {b : UInt8} (h : TkRel l k fr cur pre) (hb : l[k]? = Option.some b) (hg : gapB b = false) : TkRel l (k + 1) (if cur = [] then (k : Int) else fr) (cur ++ [b]) pre := by
  have hk : k < l.length := by
    rcases Nat.lt_or_ge k l.length with h | h
    · exact h
    · rw [List.getElem?_eq_none h] at hb; cases hb
  have e := h.go (by omega)
  have hb' : l[k] = b := by rw [List.getElem?_eq_getElem hk] at hb; exact Option.some.inj hb
  refine ⟨fun hk1 => ?_, fun hk1 => by omega, fun h => by simp at h, fun _ => ?_⟩
  · rw [e, List.drop_eq_getElem_cons hk, hb', tk, hg]
    simp
  · by_cases hc : cur = []
    · subst hc
      exact ⟨k, by simp, by simp, by omega, by rw [List.drop_eq_getElem_cons hk, hb']; simp⟩
    · obtain ⟨f, hf, h1, h2, h3⟩ := h.some hc
      refine ⟨f, by rw [if_neg hc, hf], by simp; omega, by omega, ?_⟩
      have e2 : (l.drop f).take (cur.length + 1) = (l.drop f).take cur.length ++ [b] := by
        rw [List.take_succ_eq_append_getElem (by simp; omega), List.getElem_drop]
        congr 2
        rw [← hb']
        congr 1
      rw [List.length_append, List.length_singleton, e2, ← h3]
def TokPost (w : World) (l : List UInt8) (a : Int) (e : Ending) (w' : World) : Prop :=
  Below w.heap.size w w' ∧ ∃ v, e = .returned v ∧ w'.ownsRow w.heap.size 68 2 v (toksF l).length (cellsT a (toksF l))

set_option maxRecDepth 100000 in
set_option maxHeartbeats 3200000 in
theorem tokens_any (s : ByteArray) (a : Int) (w : World) (hs : s.size ≤ 1048576) (ha : 0 ≤ a) (ha' : a ≤ 1048576) (hE : Env w) :
    Calls Tryd.prog 24 #[.string s, .int .i64 a] w (TokPost w s.data.toList a) := by
  obtain ⟨i0, hi, hz0, hz1, hz2⟩ := info_parts infoTok
  obtain ⟨m, hm⟩ := hE.maxlen
  have HC : Hid (Calls Tryd.prog 44 #[.string s, .string ⟨#[35]⟩] w fun e w' => e = .returned (.tuple #[.string ⟨(Lib.cut s.data.toList [35]).1.toArray⟩, .string ⟨(Lib.cut s.data.toList [35]).2.1.toArray⟩, .bool (Lib.cut s.data.toList [35]).2.2]) ∧ ∃ n, w' = w.drewN n) :=
    Tryd.strings_Cut s ⟨#[35]⟩ m w (by omega) hm
  clear hm hE
  have hq : (⟨(Lib.cut s.data.toList [35]).1.toArray⟩ : ByteArray).size ≤ 1048576 := by
    have := cutHash_le s.data.toList
    rw [Array.length_toList] at this
    show (List.toArray _).size ≤ _
    rw [List.size_toArray, cut_hash]
    exact Nat.le_trans this hs
  have hq2 : toksF s.data.toList = tk 0 [] (⟨(Lib.cut s.data.toList [35]).1.toArray⟩ : ByteArray).data.toList := by simp [toksF, cut_hash]
  have HQ := Lib.hid hq2
  clear hq2
  go_enter Tryd.func24, Tryd.ntmps24
  go_wp2_with ((go_at_call 44; refine HC.out.mono ?_; generalize (⟨(Lib.cut s.data.toList [35]).1.toArray⟩ : ByteArray) = q at *; rintro e w' ⟨rfl, nq, rfl⟩))
  clear HC
  go_loopw [5, 6, 7] (fun l f i wr => ∃ (k : Nat) (fr : Int) (cur : List UInt8) (pre : List (List UInt8 × Nat)), i = .int .i64 k ∧ f = .int .i64 fr ∧ k ≤ q.size + 1 ∧ pre.length ≤ k ∧ cur.length ≤ k ∧
      Hid (TkRel q.data.toList k fr cur pre) ∧ Hid (wr.ownsRow w.heap.size 68 2 l pre.length (cellsT a pre)) ∧ Below w.heap.size w wr) (fun _ _ i _ => q.size + 1 - (intOf i).toNat)
  case atStart => exact ⟨0, -1, [], [], rfl, rfl, by omega, by simp, by simp, TkRel.start _, World.ownsRow_nil _ _ _ _, ⟨rfl, rfl, rfl, Nat.le_refl _, fun _ _ => rfl⟩⟩
  case round =>
    obtain ⟨k, fr, cur, pre, rfl, rfl, hk, hpre, hcl, HR, HO, hbel⟩ := hrel
    by_cases hle : k ≤ q.size
    · have hend : (k = q.size ∧ ((k : Int) == q.size) = true) ∨ (k < q.size ∧ ((k : Int) == q.size) = false) := by
        rcases Nat.lt_or_eq_of_le hle with h | h
        · exact .inr ⟨h, by simp; omega⟩
        · exact .inl ⟨h, by simp; omega⟩
      by_cases hcur : cur = []
      · obtain rfl : fr = -1 := HR.out.nil hcur
        subst hcur
        rcases hend with ⟨rfl, hend⟩ | ⟨hlt, hend⟩
        · have HN := Lib.hid (HR.out.gap_nil (by simp) (fun b hb => by simp at hb))
          clear HR hle
          go_wp2
          go_roundw
          case rel => exact ⟨q.size + 1, -1, [], pre, by go_num, rfl, by omega, by omega, by simp, HN.out, HO.out, hbel⟩
          case measure => first | (simp [intOf]; done) | (simp [intOf]; omega)
        · by_cases hg : gapB q[k] = true
          · have HN := Lib.hid (HR.out.gap_nil (by simpa using hle) (fun b hb => by simp [hlt] at hb; subst hb; exact hg))
            have h3 : (((q[k].toNat : Int) == 32) = true) ∨ (((q[k].toNat : Int) == 32) = false ∧ ((q[k].toNat : Int) == 9) = true) := by
              have := (gapB_iff _).1 hg
              by_cases h : q[k].toNat = 32
              · left; simp [h]
              · exact .inr ⟨by rw [beq_eq_false_iff_ne]; omega, by rw [beq_iff_eq]; omega⟩
            clear HR hle hg
            rcases h3 with h3 | ⟨h3, h4⟩
            all_goals
              go_wp2
              go_roundw
              case rel => exact ⟨k + 1, -1, [], pre, by go_num, rfl, by omega, by omega, by simp, HN.out, HO.out, hbel⟩
              case measure => first | (simp [intOf]; done) | (simp [intOf]; omega)
          · have hg' : gapB q[k] = false := by simpa using hg
            have HN := Lib.hid (HR.out.next (b := q[k]) (by simp [hlt]; rfl) hg')
            have h3 : ((q[k].toNat : Int) == 32) = false := by have := mt (gapB_iff q[k]).2 hg; simp; omega
            have h4 : ((q[k].toNat : Int) == 9) = false := by have := mt (gapB_iff q[k]).2 hg; simp; omega
            clear HR hle hg
            go_wp2
            go_roundw
            case rel => exact ⟨k + 1, k, [q[k]], pre, by go_num, rfl, by omega, by omega, by simp, HN.out, HO.out, hbel⟩
            case measure => first | (simp [intOf]; done) | (simp [intOf]; omega)
      · obtain ⟨f, rfl, hf, _, hcf⟩ := HR.out.some hcur
        have hfk : f ≤ k := by omega
        have hsub : q.extract f k = ⟨cur.toArray⟩ := by
          apply ByteArray.ext
          apply Array.toList_inj.1
          rw [ByteArray.data_extract, Array.toList_extract]
          simp only [List.extract_eq_take_drop]
          rw [hcf]
          congr 1
          omega
        have HS := Lib.hid hsub
        have HO1 := HO.out
        have hbz := hbel.size
        by_cases hgap : ∀ b, q.data.toList[k]? = some b → gapB b = true
        · have HN := Lib.hid (HR.out.gap_some hcur (by simpa using hle) hf hgap)
          have h3 : (k = q.size ∧ ((k : Int) == q.size) = true) ∨ ∃ h : k < q.size, ((k : Int) == q.size) = false ∧ ((((q[k].toNat : Int) == 32) = true) ∨ (((q[k].toNat : Int) == 32) = false ∧ ((q[k].toNat : Int) == 9) = true)) := by
            rcases hend with h | ⟨h, h2⟩
            · exact .inl h
            · refine .inr ⟨h, h2, ?_⟩
              have := (gapB_iff q[k]).1 (hgap _ (by simp [h]; rfl))
              by_cases h : q[k].toNat = 32
              · left; simp [h]
              · exact .inr ⟨by rw [beq_eq_false_iff_ne]; omega, by rw [beq_iff_eq]; omega⟩
          clear HR hle hend hgap hcf hsub hcur
          rcases h3 with ⟨rfl, h3⟩ | ⟨h3, h4, h5 | ⟨h5, h6⟩⟩
          · go_wp2_with (at_builtin; refine wpList_append_own _ rfl _ _ 65 rfl w.heap.size 68 i0 _ 2 24 Tryd.underlying65 hi hz0 hz1 hz2 rfl (by decide) _ _ _ rfl (HO1.alloc _) ⟨wr.heap.size, 0, none⟩ 1 1 [.string (q.extract f q.size), .int .i64 (a + f)] rfl rfl ?c1 ?c2 ?c3 ?c4 ?c5 ?_)
            case c1 => exact fun j u => new_cells _ _ _ _ rfl j u
            case c2 => intro u hu; simp at hu; rcases hu with rfl | rfl <;> rfl
            case c3 => unfold maxLen; omega
            case c4 => omega
            case c5 => simp; omega
            intro v1 w1 hO2 hg2 _
            have hb2 := grown_below HO1 (hbel.alloc hbz _) (by simp; omega) hg2
            rw [HS.out] at hO2
            have HO2 := Lib.hid hO2
            clear hO2 hg2 HO1
            go_wp2
            go_roundw
            case rel => exact ⟨q.size + 1, -1, [], pre ++ [(cur, f)], by go_num, rfl, by omega, by rw [List.length_append, List.length_singleton]; omega, by simp, HN.out, by rw [List.length_append, cellsT_snoc]; exact HO2.out, hb2⟩
            case measure => first | (simp [intOf]; done) | (simp [intOf]; omega)
          · go_wp2_with (at_builtin; refine wpList_append_own _ rfl _ _ 65 rfl w.heap.size 68 i0 _ 2 24 Tryd.underlying65 hi hz0 hz1 hz2 rfl (by decide) _ _ _ rfl (HO1.alloc _) ⟨wr.heap.size, 0, none⟩ 1 1 [.string (q.extract f k), .int .i64 (a + f)] rfl rfl ?d1 ?d2 ?d3 ?d4 ?d5 ?_)
            case d1 => exact fun j u => new_cells _ _ _ _ rfl j u
            case d2 => intro u hu; simp at hu; rcases hu with rfl | rfl <;> rfl
            case d3 => unfold maxLen; omega
            case d4 => omega
            case d5 => simp; omega
            intro v1 w1 hO2 hg2 _
            have hb2 := grown_below HO1 (hbel.alloc hbz _) (by simp; omega) hg2
            rw [HS.out] at hO2
            have HO2 := Lib.hid hO2
            clear hO2 hg2 HO1
            go_wp2
            go_roundw
            case rel => exact ⟨k + 1, -1, [], pre ++ [(cur, f)], by go_num, rfl, by omega, by rw [List.length_append, List.length_singleton]; omega, by simp, HN.out, by rw [List.length_append, cellsT_snoc]; exact HO2.out, hb2⟩
            case measure => first | (simp [intOf]; done) | (simp [intOf]; omega)
          · go_wp2_with (at_builtin; refine wpList_append_own _ rfl _ _ 65 rfl w.heap.size 68 i0 _ 2 24 Tryd.underlying65 hi hz0 hz1 hz2 rfl (by decide) _ _ _ rfl (HO1.alloc _) ⟨wr.heap.size, 0, none⟩ 1 1 [.string (q.extract f k), .int .i64 (a + f)] rfl rfl ?e1 ?e2 ?e3 ?e4 ?e5 ?_)
            case e1 => exact fun j u => new_cells _ _ _ _ rfl j u
            case e2 => intro u hu; simp at hu; rcases hu with rfl | rfl <;> rfl
            case e3 => unfold maxLen; omega
            case e4 => omega
            case e5 => simp; omega
            intro v1 w1 hO2 hg2 _
            have hb2 := grown_below HO1 (hbel.alloc hbz _) (by simp; omega) hg2
            rw [HS.out] at hO2
            have HO2 := Lib.hid hO2
            clear hO2 hg2 HO1
            go_wp2
            go_roundw
            case rel => exact ⟨k + 1, -1, [], pre ++ [(cur, f)], by go_num, rfl, by omega, by rw [List.length_append, List.length_singleton]; omega, by simp, HN.out, by rw [List.length_append, cellsT_snoc]; exact HO2.out, hb2⟩
            case measure => first | (simp [intOf]; done) | (simp [intOf]; omega)
        · have hb4 : ∃ h : k < q.size, gapB q[k] = false := by
            by_cases h : k < q.size
            · refine ⟨h, ?_⟩
              cases hh : gapB q[k] with
              | false => rfl
              | true => exact absurd (fun b hb => by simp [h] at hb; subst hb; exact hh) hgap
            · exact absurd (fun b hb => by rw [List.getElem?_eq_none (by simp; omega)] at hb; cases hb) hgap
          obtain ⟨hlt, hg⟩ := hb4
          have hg2 : ¬ gapB q[k] = true := by rw [hg]; simp
          have HN := Lib.hid (HR.out.next (b := q[k]) (by simp [hlt]; rfl) hg)
          have h2 : ((k : Int) == q.size) = false := by rw [beq_eq_false_iff_ne]; omega
          have h3 : ((q[k].toNat : Int) == 32) = false := by have := mt (gapB_iff q[k]).2 hg2; rw [beq_eq_false_iff_ne]; omega
          have h4 : ((q[k].toNat : Int) == 9) = false := by have := mt (gapB_iff q[k]).2 hg2; rw [beq_eq_false_iff_ne]; omega
          have hf0 : decide ((f : Int) < 0) = false := by simp
          have HC := Lib.hid hcur
          clear HR hle hg hg2 hend hgap hcf hsub hcur HO1
          go_wp2
          go_roundw
          case rel => exact ⟨k + 1, f, cur ++ [q[k]], pre, by go_num, rfl, by omega, by omega, by rw [List.length_append, List.length_singleton]; omega, by have := HN.out; rw [if_neg HC.out] at this; exact this, HO.out, hbel⟩
          case measure => first | (simp [intOf]; done) | (simp [intOf]; omega)
    · have hk2 : k = q.size + 1 := by omega
      go_wp2
      go_ret
      exact ⟨hbel, _, rfl, by rw [HQ.out, HR.out.done (by simpa using hk2)]; exact HO.out⟩
end Go.Proofs.YtbigllcononkbaaDoor
