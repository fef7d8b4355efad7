/- The walk of the definition's lines (layer 14). -/
import Derived.Test.YtbigllcononkbaaDoorR2
import Derived.BigRegion
namespace Go.Proofs.YtbigllcononkbaaDoor
open Go Go.RowKit

def LinesPost (w : World) (t : List UInt8) (e : Ending) (w' : World) : Prop :=
  ∃ (out : Value) (vs : List Value), e = .returned out ∧ Below w.heap.size w w' ∧ vs.length = (splitL t).length ∧ w'.ownsRow w.heap.size 83 2 out vs.length (cellsV vs) ∧
    ∀ (i : Nat) (v : Value) (ts : List Tok), vs[i]? = some v → (offs 0 (splitL t))[i]? = some ts → w'.ownsRow w.heap.size 85 2 v ts.length (cellsK ts)
theorem LinesW.done {w wr : World} {out : Value} {fl : List (List UInt8)} {p : List UInt8} {vs : List Value} {vc : Value} {base : Nat} {t : List UInt8} (h : LinesW w wr out fl p vs vc base) (ht : splitL t = fl ++ [p]) : LinesPost w t (.returned out) wr := by
  refine ⟨out, vs ++ [vc], rfl, h.bel, by rw [ht]; simp [h.len], by rw [List.length_append, List.length_singleton, h.len]; exact h.row, fun i v ts hv hts => ?_⟩
  rw [ht, offs_snoc, Nat.zero_add] at hts
  have hl := h.len
  have hol := offs_length fl 0
  rcases Nat.lt_or_ge i vs.length with hi | hi
  · rw [List.getElem?_append_left hi] at hv
    rw [List.getElem?_append_left (by omega)] at hts
    exact (h.old i v ts hv hts).1
  · rw [List.getElem?_append_right hi] at hv
    rw [List.getElem?_append_right (by omega)] at hts
    have : i - vs.length = 0 := by
      rcases Nat.eq_zero_or_pos (i - vs.length) with h | h
      · exact h
      · rw [List.getElem?_eq_none (by simp; omega)] at hv; cases hv
    rw [show i - (offs 0 fl).length = 0 by omega] at hts
    rw [this] at hv
    simp at hv hts
    subst hv hts
    exact own_base h.cur h.lo
theorem split_ne (t : List UInt8) : ∃ fl p, splitL t = fl ++ [p] := by
  rcases List.eq_nil_or_concat (splitL t) with h | ⟨l, b, h⟩
  · exact absurd h (splitL_ne t)
  · exact ⟨l, b, by rw [h]; simp⟩
theorem toksAt_few (a : Nat) (p : List UInt8) : (toksAt a p).length ≤ p.length + 1 := by
  unfold toksAt
  rw [List.length_map]
  exact Nat.le_trans (tk_count _ _ _) (by have := cutHash_le p; omega)
theorem split_snoc {l : List UInt8} {fl : List (List UInt8)} {p : List UInt8} {b : UInt8} (h : splitL l = fl ++ [p]) (hb : b ≠ 10) : splitL (l ++ [b]) = fl ++ [p ++ [b]] := by
  obtain ⟨fl', p', e1, e2⟩ := splitL_other b hb l
  rw [h] at e1
  obtain ⟨rfl, h2⟩ := List.append_inj' e1 rfl
  obtain rfl : p = p' := by simpa using h2
  exact e2
/-- The start. -/
theorem LinesW.start (w : World) : LinesW w (w.alloc (.cells #[.slice none 0 0, .string ⟨#[]⟩] 83)) (.slice (some ⟨w.heap.size, 0, none⟩) 1 1) [] [] [] (.slice none 0 0) (w.heap.size + 1) where
  bel := (Below.refl _ _).alloc (Nat.le_refl _) _
  lo := by omega
  hi := by simp
  len := rfl
  row := ⟨rfl, .inr ⟨w.heap.size, 1, _, rfl, Nat.le_refl _, heap_new _ _, Nat.le_refl _, by unfold maxLen; omega, rfl, rfl⟩⟩
  old := fun i v ts h => by simp at h
  cur := World.ownsRow_nil _ _ _ _
/-- A store into a row that is owned. -/
theorem own_set {w : World} {B e size n g cap : Nat} {xs : List Value} (h : w.ownsRow B e size (.slice (some ⟨g, 0, none⟩) n cap) n xs) (o : Nat) (v : Value) : (w.setCell ⟨g, o, none⟩ v).ownsRow B e size (.slice (some ⟨g, 0, none⟩) n cap) n (xs.set o v) := by
  obtain ⟨h1, h2⟩ := h
  refine ⟨by simpa using h1, ?_⟩
  rcases h2 with ⟨h2, _⟩ | ⟨g', cap', cur, h2, hg, hh, r1, r2, r3, r4⟩
  · cases h2
  · cases h2
    refine .inr ⟨g, cap, _, rfl, hg, set_heap hh o v, r1, r2, by simpa using r3, ?_⟩
    rw [Array.toList_setIfInBounds, ← r4, List.take_set]
theorem lsum_take {t : List UInt8} {fl : List (List UInt8)} {p : List UInt8} (h : splitL t = fl ++ [p]) : lsum fl + p.length = t.length := by
  have key : ∀ l : List UInt8, lsum (splitL l) = l.length + 1 := by
    intro l
    induction l with
    | nil => rfl
    | cons b t ih =>
      simp only [splitL]
      split
      · simp only [lsum, List.map_cons, List.sum_cons, List.length_nil, List.length_cons] at ih ⊢
        omega
      · cases hs : splitL t with
        | nil => exact absurd hs (splitL_ne t)
        | cons x xs =>
          rw [hs] at ih
          simp only [lsum, List.map_cons, List.sum_cons, List.length_cons] at ih ⊢
          omega
  have := key t
  rw [h] at this
  simp only [lsum, List.map_append, List.map_cons, List.map_nil, List.sum_append, List.sum_cons, List.sum_nil] at this ⊢
  omega
/-- What is known ahead of a letter's store. -/
structure AtText (w wr wc : World) (fl : List (List UInt8)) (p : List UInt8) (b : UInt8) (vs : List Value) (base G cap gc capc : Nat) (ts : List Tok) (x : List UInt8) (j : Int) : Prop where
  toks : toksAt (lsum fl) (p ++ [b]) = ts ++ [(x ++ [b], j)]
  bel : Below w.heap.size w wc
  size : wr.heap.size ≤ wc.heap.size
  keep : ∀ k, k < base → k ≠ G → wc.heap[k]? = wr.heap[k]?
  row : wc.ownsRow w.heap.size 83 2 (.slice (some ⟨G, 0, none⟩) (fl.length + 1 : Nat) cap) (fl.length + 1) (cellsV (vs ++ [.slice (some ⟨gc, 0, none⟩) (ts.length + 1 : Nat) capc]))
  cur : wc.ownsRow base 85 2 (.slice (some ⟨gc, 0, none⟩) (ts.length + 1 : Nat) capc) (ts.length + 1) (cellsK ts ++ [.string ⟨x.toArray⟩, .int .i64 j])
theorem own_gc {w : World} {B e size n g cap : Nat} {xs : List Value} (h : w.ownsRow B e size (.slice (some ⟨g, 0, none⟩) n cap) n xs) : ∃ cur, w.heap[g]? = some (.cells cur e (0, 0)) ∧ B ≤ g ∧ n ≤ cap ∧ cap ≤ maxLen := by
  obtain ⟨_, h2⟩ := h
  rcases h2 with ⟨h2, _⟩ | ⟨g', cap', cur, h2, hg, hh, r1, r2, _⟩
  · cases h2
  · cases h2; exact ⟨cur, hh, hg, r1, r2⟩
theorem AtText.done {w wr wc : World} {fl : List (List UInt8)} {p : List UInt8} {b : UInt8} {vs : List Value} {vc : Value} {base G cap gc capc : Nat} {ts : List Tok} {x : List UInt8} {j : Int} (h : AtText w wr wc fl p b vs base G cap gc capc ts x j)
    (hL : LinesW w wr (.slice (some ⟨G, 0, none⟩) (fl.length + 1 : Nat) cap) fl p vs vc base) :
    LinesW w ((wc.setCell ⟨gc, ts.length * 2, none⟩ (.string ((⟨x.toArray⟩ : ByteArray) ++ ⟨#[b]⟩))).drew) (.slice (some ⟨G, 0, none⟩) (fl.length + 1 : Nat) cap) fl (p ++ [b]) vs (.slice (some ⟨gc, 0, none⟩) (ts.length + 1 : Nat) capc) base := by
  obtain ⟨cG, hG, _⟩ := own_gc h.row
  obtain ⟨cg, hgc, hgb, _⟩ := own_gc h.cur
  have hne : G ≠ gc := fun e => by rw [e, hgc] at hG; cases hG
  refine hL.tok ((h.bel.setCell (Nat.le_trans hL.lo hgb) _).drew) ?_ ?_ ?_ ?_
  · have := h.size
    simpa [World.setCell, World.drew] using this
  · intro k hk hkG
    show (wc.setCell _ _).heap[k]? = _
    rw [Below.heap_setCell _ _ _ _ (by simp only; omega)]
    exact h.keep k hk (fun e => hkG (by rw [e]; rfl))
  · exact (own_setCell h.row (by simp only [Value.ownBlock]; exact fun e => hne (Option.some.inj e).symm) _).drew
  · have := (own_set h.cur (ts.length * 2) (.string ((⟨x.toArray⟩ : ByteArray) ++ ⟨#[b]⟩))).drew
    rw [h.toks, cellsK_snoc, List.length_append, List.length_singleton]
    rw [List.set_append_right _ _ (by rw [cellsK_length]; exact Nat.le_refl _), cellsK_length, Nat.sub_self] at this
    have e : ((⟨x.toArray⟩ : ByteArray) ++ ⟨#[b]⟩) = ⟨(x ++ [b]).toArray⟩ := ByteArray.mk_append_mk x [b]
    rw [e] at this
    exact this
theorem toksAt_len (a : Nat) (p : List UInt8) (t : Tok) (h : t ∈ toksAt a p) : t.1.length ≤ p.length := by
  simp only [toksAt, List.mem_map] at h
  obtain ⟨t', ht', rfl⟩ := h
  have h1 := (tk_bound _ 0 [] (by simp) t' ht').1
  have h2 := cutHash_le p
  simp only
  omega
set_option maxRecDepth 100000 in
set_option maxHeartbeats 3200000 in
theorem lines_any (s : ByteArray) (w : World) (hs : s.size ≤ 1048576) :
    Calls Tryd.prog 27 #[.string s] w (LinesPost w s.data.toList) := by
  obtain ⟨i0, hi, hz0, hz1, hz2⟩ := info_parts infoLine
  obtain ⟨j0, hj, hy0, hy1, hy2⟩ := info_parts infoTok14
  have hln : s.data.toList.length = s.size := Array.length_toList
  go_enter Tryd.func27, Tryd.ntmps27
  go_wp2
  go_loopw [3, 4, 5, 6] (fun out ib rm i wr => ∃ (k : Nat) (fl : List (List UInt8)) (p : List UInt8) (vs : List Value) (vc : Value) (base G cap : Nat) (b5 b4 : Bool), out = .slice (some ⟨G, 0, none⟩) (fl.length + 1 : Nat) cap ∧ i = .int .i64 k ∧ k ≤ s.size ∧ rm = .bool b5 ∧ ib = .bool b4 ∧
      Hid (splitL (s.data.toList.take k) = fl ++ [p] ∧ b5 = hashB p ∧ b4 = inB p ∧ LinesW w wr out fl p vs vc base)) (fun _ _ _ i _ => s.size - (intOf i).toNat)
  case atStart =>
    exact ⟨0, [], [], [], .slice none 0 0, w.heap.size + 1, w.heap.size, 1, false, false, rfl, rfl, Nat.zero_le _, rfl, rfl, rfl, rfl, rfl, LinesW.start w⟩
  case round =>
    obtain ⟨k, fl, p, vs, vc, base, G, cap, b5, b4, rfl, rfl, hk, rfl, rfl, HH⟩ := hrel
    by_cases hlt : k < s.size
    · obtain ⟨hsp, h5, h4, HL⟩ := HH.out
      have htk : s.data.toList.take (k + 1) = s.data.toList.take k ++ [s[k]] := List.take_succ_eq_append_getElem (by omega)
      have hlen1 : fl.length + 1 ≤ k + 1 := by
        have h1 := splitL_length (s.data.toList.take k)
        rw [hsp, List.length_append, List.length_singleton] at h1
        have h2 := List.count_le_length (a := (10 : UInt8)) (l := s.data.toList.take k)
        have h3 := List.length_take_le k s.data.toList
        omega
      obtain ⟨hGb, hGl, hGc, hGm⟩ : w.heap.size ≤ G ∧ G < wr.heap.size ∧ fl.length + 1 ≤ cap ∧ cap ≤ maxLen := by
        rcases own_form HL.row with ⟨_, h⟩ | ⟨G', cap', h, h'⟩
        · omega
        · cases h; exact h'
      have hwr := HL.bel.size
      have HS := Lib.hid hsp
      have H5 := Lib.hid h5
      have H4 := Lib.hid h4
      have HK := Lib.hid htk
      have HLL := Lib.hid HL
      clear hsp h5 h4 htk HL HH
      by_cases h10 : s[k] = 10
      · have c10 : ((s[k].toNat : Int) == 10) = true := by rw [h10]; rfl
        have HR := HLL.out.row
        have HC := Lib.hid h10
        clear h10
        go_wp2_with (at_builtin; refine wpList_append_own _ rfl _ _ 78 rfl w.heap.size 83 i0 _ 2 40 Tryd.underlying78 hi hz0 hz1 hz2 rfl (by decide) _ _ _ rfl (HR.alloc _) ⟨wr.heap.size, 0, none⟩ 1 1 [.slice none 0 0, .string ⟨#[]⟩] rfl rfl ?c1 ?c2 ?c3 ?c4 ?c5 ?_)
        case c1 => exact fun j u => new_cells _ _ _ _ rfl j u
        case c2 => intro u hu; simp at hu; rcases hu with rfl | rfl <;> rfl
        case c3 => unfold maxLen; omega
        case c4 => omega
        case c5 => simp; omega
        intro v1 w1 hO1 hg _
        obtain ⟨G1, cap1, rfl⟩ : ∃ G1 cap1, v1 = .slice (some ⟨G1, 0, none⟩) (fl.length + 1 + 1) cap1 := by
          rcases own_form hO1 with ⟨_, h⟩ | ⟨G', cap', h, h'⟩
          · omega
          · exact ⟨G', cap', h⟩
        have HO1 := Lib.hid hO1
        have HG := Lib.hid hg
        clear hO1 hg HR
        go_wp2
        go_roundw
        case rel => exact ⟨k + 1, fl ++ [p], [], vs ++ [vc], .slice none 0 0, w1.heap.size, G1, cap1, false, false, by rw [List.length_append]; rfl, by go_num, by omega, rfl, rfl, by rw [HK.out, HC.out, splitL_ten, HS.out], rfl, rfl, HLL.out.line ((Below.refl _ _).alloc (Nat.le_refl _) _) HG.out HO1.out⟩
        case measure => first | (simp [intOf]; done) | (simp [intOf]; omega)
      · have c10 : ((s[k].toNat : Int) == 10) = false := by
          rw [beq_eq_false_iff_ne]
          intro h
          exact h10 (UInt8.toNat_inj.1 (by show s[k].toNat = 10; omega))
        have HC10 := Lib.hid h10
        clear h10
        have hbyte : ∀ n : Nat, n < 256 → s[k] ≠ UInt8.ofNat n → ((s[k].toNat : Int) == (n : Int)) = false := fun n hn h => by
          rw [beq_eq_false_iff_ne]
          intro e
          exact h (UInt8.toNat_inj.1 (by rw [UInt8.toNat_ofNat_of_lt' (by simp only [UInt8.size]; omega)]; omega))
        by_cases hskip : (hashB p || s[k] == 35 || gapB s[k]) = true
        · obtain ⟨e1, e2⟩ := toksAt_skip (lsum fl) p s[k] hskip
          have HT := Lib.hid e1
          have HI := Lib.hid e2
          clear e1 e2
          cases b5 with
          | true =>
            clear hskip hbyte
            go_wp2
            all_goals
              go_roundw
              case rel => exact ⟨k + 1, fl, p ++ [s[k]], vs, vc, base, G, cap, true, false, rfl, by go_num, by omega, rfl, rfl, by rw [HK.out, split_snoc HS.out HC10.out], by rw [hashB_snoc, ← H5.out]; rfl, HI.out.symm, HLL.out.same (Below.refl _ _) HT.out⟩
              case measure => first | (simp [intOf]; done) | (simp [intOf]; omega)
          | false =>
            by_cases h35 : s[k] = 35
            · have c35 : ((s[k].toNat : Int) == 35) = true := by rw [h35]; rfl
              have H35 : Hid (hashB (p ++ [s[k]]) = true) := by show hashB _ = true; rw [hashB_snoc, h35]; simp
              clear hskip hbyte h35
              go_wp2
              go_roundw
              case rel => exact ⟨k + 1, fl, p ++ [s[k]], vs, vc, base, G, cap, true, false, rfl, by go_num, by omega, rfl, rfl, by rw [HK.out, split_snoc HS.out HC10.out], H35.out.symm, HI.out.symm, HLL.out.same (Below.refl _ _) HT.out⟩
              case measure => first | (simp [intOf]; done) | (simp [intOf]; omega)
            · have c35 := hbyte 35 (by omega) h35
              have H35 : Hid (hashB (p ++ [s[k]]) = false) := by show hashB _ = false; rw [hashB_snoc, ← H5.out]; simpa using h35
              have hgap : gapB s[k] = true := by
                rw [← H5.out] at hskip
                simpa [h35] using hskip
              have h3 : (((s[k].toNat : Int) == 32) = true) ∨ (((s[k].toNat : Int) == 32) = false ∧ ((s[k].toNat : Int) == 9) = true) := by
                have := (gapB_iff _).1 hgap
                by_cases h : s[k].toNat = 32
                · left; simp [h]
                · exact .inr ⟨by rw [beq_eq_false_iff_ne]; omega, by rw [beq_iff_eq]; omega⟩
              clear hskip hbyte h35 hgap
              rcases h3 with h3 | ⟨h3, h4⟩
              all_goals
                go_wp2
                go_roundw
                case rel => exact ⟨k + 1, fl, p ++ [s[k]], vs, vc, base, G, cap, false, false, rfl, by go_num, by omega, rfl, rfl, by rw [HK.out, split_snoc HS.out HC10.out], H35.out.symm, HI.out.symm, HLL.out.same (Below.refl _ _) HT.out⟩
                case measure => first | (simp [intOf]; done) | (simp [intOf]; omega)
        · have hns : (hashB p || s[k] == 35 || gapB s[k]) = false := by simpa using hskip
          have hns2 := hns
          simp only [Bool.or_eq_false_iff] at hns2
          obtain ⟨⟨hp5, hn35⟩, hngap⟩ := hns2
          obtain rfl : b5 = false := by rw [H5.out]; exact hp5
          have c35 : ((s[k].toNat : Int) == 35) = false := hbyte 35 (by omega) (by simpa using hn35)
          have c32 : ((s[k].toNat : Int) == 32) = false := hbyte 32 (by omega) (fun e => by rw [e] at hngap; cases hngap)
          have c9 : ((s[k].toNat : Int) == 9) = false := hbyte 9 (by omega) (fun e => by rw [e] at hngap; cases hngap)
          have H6 : Hid (hashB (p ++ [s[k]]) = false) := by show hashB _ = false; rw [hashB_snoc, hp5, hn35]; rfl
          clear hskip hbyte hp5 hn35 hngap
          have hcell : wr.cell? ⟨G, fl.length * 2, none⟩ = some vc := by
            have hl := HLL.out.len
            have := own_cell HLL.out.row (fl.length * 2) (by rw [cellsV_length, List.length_append, hl]; simp)
            rw [this, ← List.getElem?_eq_getElem, cellsV_snoc, List.getElem?_append_right (by rw [cellsV_length, hl]; exact Nat.le_refl _), cellsV_length, hl, Nat.sub_self]
            rfl
          have hfree : wr.frozen? ⟨G, fl.length * 2, none⟩ = false := by
            obtain ⟨_, h⟩ := HLL.out.row
            rcases h with ⟨h, _⟩ | ⟨g', cap', cur, h, _, hh, _⟩
            · cases h
            · cases h; exact box_free hh _
          have hsl : ∀ wx, (Instr.slice 9 (.string s) (some (.int .i64 (k : Int))) (some (.int .i64 ((k : Int) + 1))) none).run Tryd.prog wx = .ok (.string ⟨#[s[k]]⟩) wx := fun wx => by
            have := run_slice_string (P := Tryd.prog) wx 9 s .i64 .i64 (k : Int) ((k : Int) + 1) Tryd.underlying9 (by omega) (by omega) (by omega)
            rw [this]
            congr 2
            apply ByteArray.ext
            apply Array.toList_inj.1
            rw [ByteArray.data_extract, Array.toList_extract, List.extract_eq_take_drop, show (k : Int).toNat = k by omega, show ((k : Int) + 1).toNat - k = 1 by omega, List.drop_eq_getElem_cons (by omega)]
            rfl
          have hcur := HLL.out.cur
          have hfew := toksAt_few (lsum fl) p
          have hpk : lsum fl + p.length = k := by have := lsum_take HS.out; rw [List.length_take] at this; omega
          have HPK := Lib.hid hpk
          have hpl : p.length ≤ k := by omega
          clear hpk
          have hI : inB (p ++ [s[k]]) = true := by
            cases hb4 : inB p with
            | false => exact (toksAt_new (lsum fl) p s[k] hns hb4).2
            | true => exact (toksAt_ext (lsum fl) p s[k] hns hb4).2
          have HI := Lib.hid hI
          clear hI
          go_upto_if 43 with (fail)
          go_cut [8] from 11 to 85 (fun v8 wc => v8 = .pointer (some ⟨G, fl.length * 2, none⟩) ∧ ∃ (gc capc : Nat) (ts : List Tok) (x : List UInt8) (j : Int), Hid (AtText w wr wc fl p s[k] vs base G cap gc capc ts x j))
          case first =>
           cases b4 with
          | false =>
            obtain ⟨e1, e2⟩ := toksAt_new (lsum fl) p s[k] hns H4.out.symm
            have HT := Lib.hid e1
            clear e1 e2 hns
            go_wp2_with (at_builtin; refine wpList_append_own _ rfl _ _ 75 rfl base 85 j0 _ 2 24 Tryd.underlying75 hj hy0 hy1 hy2 rfl (by decide) _ _ _ rfl (hcur.alloc _) ⟨wr.heap.size, 0, none⟩ 1 1 [.string ⟨#[]⟩, .int .i64 k] rfl rfl ?c1 ?c2 ?c3 ?c4 ?c5 ?_)
            case c1 => exact fun j u => new_cells _ _ _ _ rfl j u
            case c2 => intro u hu; simp at hu; rcases hu with rfl | rfl <;> rfl
            case c3 => unfold maxLen; omega
            case c4 => omega
            case c5 => have := HLL.out.hi; simp; omega
            intro v1 w1 hO1 hg _
            obtain ⟨gc, capc, rfl⟩ : ∃ gc capc, v1 = .slice (some ⟨gc, 0, none⟩) ((toksAt (lsum fl) p).length + 1) capc := by
              rcases own_form hO1 with ⟨_, h⟩ | ⟨G', cap', h, h'⟩
              · omega
              · exact ⟨G', cap', h⟩
            have hG1 : w1.heap[G]? = wr.heap[G]? := by
              rw [hg.block G (by simp; omega) (own_types HLL.out.row HLL.out.cur (by decide) rfl)]
              exact Below.heap_alloc _ _ _ hGl
            have hc1 : w1.cell? ⟨G, fl.length * 2, none⟩ = some vc := by rw [World.cell?_of_block (a := ⟨G, _, none⟩) hG1]; exact hcell
            have hf1 : w1.frozen? ⟨G, fl.length * 2, none⟩ = false := by rw [World.frozen?_of_block (a := ⟨G, _, none⟩) hG1]; exact hfree
            have hz1 : wr.heap.size + 1 ≤ w1.heap.size := by have := hg.size; simpa using this
            have HO1 := Lib.hid hO1
            have HG := Lib.hid hg
            have HG1 := Lib.hid hG1
            clear hO1 hg hcur hG1 hcell hfree
            go_wp2
            go_meet
            case rel =>
              refine ⟨rfl, gc, capc, toksAt (lsum fl) p, [], k, ?_, ?_, ?_, ?_, ?_, ?_⟩
              · rw [HT.out, HPK.out]; rfl
              · exact ((HLL.out.bel.alloc hwr _).grown HG.out (by simp; omega) (fun g hgo => Nat.le_trans HLL.out.lo (own_lt HLL.out.cur hgo).2)).setCell hGb _
              · simp [World.setCell]; omega
              · intro q hq hqG
                rw [Below.heap_setCell _ _ _ _ hqG, HG.out.block q (by have := HLL.out.hi; simp; omega) (fun e => by have := (own_lt HLL.out.cur e.symm).2; omega)]
                exact Below.heap_alloc _ _ _ (by have := HLL.out.hi; omega)
              · have hr := own_set (own_same HLL.out.row (w' := w1) fun g hgo => by cases hgo; exact HG1.out) (fl.length * 2) (.slice (some ⟨gc, 0, none⟩) ((toksAt (lsum fl) p).length + 1) capc)
                rw [cellsV_snoc, ← HLL.out.len, ← cellsV_length, List.set_append_right _ _ (Nat.le_refl _), Nat.sub_self] at hr
                rw [cellsV_snoc]
                simpa [HLL.out.len, cellsV_length] using hr
              · exact own_setCell HO1.out (own_types HLL.out.row HLL.out.cur (by decide) rfl |> fun _ => by
                  intro e
                  obtain ⟨cur, hh, _⟩ := own_gc HO1.out
                  cases e
                  rw [HG1.out] at hh
                  obtain ⟨cur2, hh2, _⟩ := own_gc HLL.out.row
                  rw [hh2] at hh
                  cases hh) _
           | true =>
            obtain ⟨⟨ts, x, j, e1, e3⟩, e2⟩ := toksAt_ext (lsum fl) p s[k] hns H4.out.symm
            rw [e1] at hcur
            obtain ⟨gc, capc, rfl⟩ : ∃ gc capc, vc = .slice (some ⟨gc, 0, none⟩) (ts.length + 1) capc := by
              rcases own_form hcur with ⟨_, h⟩ | ⟨G', cap', h, h'⟩
              · simp at h
              · exact ⟨G', cap', by rw [h]; simp⟩
            have HT := Lib.hid e1
            have HT2 := Lib.hid e3
            have HC2 := Lib.hid hcur
            clear e1 e2 e3 hns hcur
            go_wp2
            go_meet
            case rel =>
              refine ⟨rfl, gc, capc, ts, x, j, HT2.out, HLL.out.bel, Nat.le_refl _, fun _ _ _ => rfl, HLL.out.row, ?_⟩
              have := HC2.out
              rw [cellsK_snoc, List.length_append] at this
              exact this
          case rest =>
            obtain ⟨rfl, gc, capc, ts, x, j, HA⟩ := hcut
            clear hcell hfree hcur
            obtain ⟨cG, hG, _⟩ := own_gc HA.out.row
            obtain ⟨cg, hgc, hgb, _, _⟩ := own_gc HA.out.cur
            have hcell : wc.cell? ⟨G, fl.length * 2, none⟩ = some (.slice (some ⟨gc, 0, none⟩) (ts.length + 1) capc) := by
              have hl := HLL.out.len
              have := own_cell HA.out.row (fl.length * 2) (by rw [cellsV_length, List.length_append, hl]; simp)
              rw [this, ← List.getElem?_eq_getElem, cellsV_snoc, List.getElem?_append_right (by rw [cellsV_length, hl]; exact Nat.le_refl _), cellsV_length, hl, Nat.sub_self]
              rfl
            have htc : wc.cell? ⟨gc, ts.length * 2, none⟩ = some (.string ⟨x.toArray⟩) := by
              have := own_cell HA.out.cur (ts.length * 2) (by rw [List.length_append, cellsK_length]; simp)
              rw [this, ← List.getElem?_eq_getElem, List.getElem?_append_right (by rw [cellsK_length]; exact Nat.le_refl _), cellsK_length, Nat.sub_self]
              rfl
            have htf := box_free hgc (ts.length * 2)
            have hGl2 := heap_lt hG
            have hgl2 := heap_lt hgc
            have hlen2 : ts.length ≤ 1048577 := by
              have h1 := toksAt_few (lsum fl) (p ++ [s[k]])
              rw [HA.out.toks] at h1
              simp at h1
              omega
            have hxl : x.length ≤ 1048577 := by
              have hm : (x ++ [s[k]], j) ∈ toksAt (lsum fl) (p ++ [s[k]]) := by rw [HA.out.toks]; simp
              have := toksAt_len _ _ _ hm
              simp at this
              omega
            have HGG := Lib.hid hG
            have HGC := Lib.hid hgc
            clear hG hgc
            go_wp2_with fail
            go_region
            go_wp2
            go_roundw
            case rel =>
              refine ⟨k + 1, fl, p ++ [s[k]], vs, .slice (some ⟨gc, 0, none⟩) (ts.length + 1 : Nat) capc, base, G, cap, false, true, rfl, by go_num, by omega, rfl, rfl, by rw [HK.out, split_snoc HS.out HC10.out], H6.out.symm, HI.out.symm, ?_⟩
              exact HA.out.done HLL.out
            case measure => first | (simp [intOf]; done) | (simp [intOf]; omega)
    · have hks : k = s.size := by omega
      obtain ⟨hsp, _, _, HL⟩ := HH.out
      rw [List.take_of_length_le (by omega)] at hsp
      have HD := Lib.hid (HL.done hsp)
      clear hsp HL HH hks
      go_wp2
      go_ret
      exact HD.out
end Go.Proofs.YtbigllcononkbaaDoor
