/- The walk of the definition's Parse (layer 14). -/
import Derived.Test.YtbigllcononkbaaDoorR13
namespace Go.Proofs.YtbigllcononkbaaDoor
open Go Go.RowKit

theorem insF_err {codes : List UInt8 → Option Nat} {size : Nat} {t0 : Tok} {ts : List Tok} {n a : Int} (h : insF codes size (t0 :: ts) = .error (n, a)) : n ≠ 0 := by
  simp only [insF] at h
  split at h
  · cases h; decide
  · rename_i c _
    by_cases hw : 0 < widthN (shapeN c)
    · rw [opStage_res hw] at h
      cases hr : opRes c t0 ts with
      | error x =>
        obtain ⟨n', a'⟩ := x
        rw [hr] at h
        cases h
        exact opRes_err hr
      | ok x =>
        rw [hr] at h
        simp only at h
        split at h
        · rename_i he; cases he
        · cases h; decide
        · split at h
          · cases h; decide
          · cases h
    · unfold opStage at h
      rw [if_neg hw] at h
      split at h
      · rename_i he; cases he
      · cases h; decide
      · split at h
        · cases h; decide
        · cases h
theorem lineF_err {codes : List UInt8 → Option Nat} {ls : Labs} {size : Nat} {ts : List Tok} {n a : Int} (h : lineF codes ls size ts = .error (n, a)) : n ≠ 0 := by
  cases ts with
  | nil => simp only [lineF] at h; cases h
  | cons t0 rest =>
    simp only [lineF] at h
    cases hl : labStage ls size t0 rest with
    | error e =>
      obtain ⟨n', a'⟩ := e
      rw [hl] at h
      cases h
      exact labStage_err hl
    | ok y =>
      obtain ⟨l2, t2⟩ := y
      rw [hl] at h
      cases t2 with
      | nil => simp only at h; cases h
      | cons t t2 =>
        simp only at h
        cases hi : insF codes size (t :: t2) with
        | error e =>
          obtain ⟨n', a'⟩ := e
          rw [hi] at h
          cases h
          exact insF_err hi
        | ok i => rw [hi] at h; cases h
theorem encAll_le : ∀ xs : List Ins, (encAll xs).length ≤ 9 * xs.length
  | [] => by simp [encAll]
  | x :: xs => by
    have e : encAll (x :: xs) = x.enc ++ encAll xs := rfl
    have := encAll_le xs
    rw [e, List.length_append, enc_length, List.length_cons]
    have := widthN_cases (shapeN x.c)
    simp only [Ins.len, Ins.w]
    omega
theorem row_key {w : World} {B e size n g cap : Nat} {xs : List Value} (h : w.ownsRow B e size (.slice (some ⟨g, 0, none⟩) n cap) n xs) (j : Nat) (u : Value) (hu : xs[j]? = some u) : w.cell? ⟨g, j, none⟩ = some u := by
  have hj : j < xs.length := by
    rcases Nat.lt_or_ge j xs.length with h | h
    · exact h
    · rw [List.getElem?_eq_none h] at hu; cases hu
  rw [own_cell h j hj]
  rw [List.getElem?_eq_getElem hj] at hu
  exact hu
theorem len_pos_of {α : Type} {xs : List α} {k : Nat} {x : α} (h : xs[k]? = some x) : 0 < xs.length := by
  cases xs with
  | nil => simp at h
  | cons a l => simp
theorem rowO_cells {w : World} {B g cap : Nat} {xs : List InsR} (h : w.ownsRow B 35 2 (.slice (some ⟨g, 0, none⟩) xs.length cap) xs.length (cellsO xs)) {k : Nat} {x : InsR} (hx : xs[k]? = some x) :
    w.cell? ⟨g, k * 2, none⟩ = some (.int .i64 x.c) ∧ w.cell? ⟨g, k * 2 + 1, none⟩ = some (.int .i64 x.o) := by
  have hf := flat2 (fun x : InsR => Value.int .i64 x.c) (fun x => Value.int .i64 x.o) xs k
  rw [hx] at hf
  exact ⟨row_key h _ _ hf.1, row_key h _ _ hf.2⟩
theorem rowN_cells {w : World} {B : Nat} {v : Value} {xs : List InsR} (h : w.ownsRow B 85 2 v xs.length (cellsN xs)) {k : Nat} {x : InsR} (hx : xs[k]? = some x) :
    ∃ g cap, v = .slice (some ⟨g, 0, none⟩) xs.length cap ∧ w.cell? ⟨g, k * 2, none⟩ = some (.string ⟨x.nm.toArray⟩) ∧ w.cell? ⟨g, k * 2 + 1, none⟩ = some (.int .i64 x.na) ∧ g < w.heap.size := by
  rcases own_form h with ⟨_, h0⟩ | ⟨g, cap, rfl, _, hg, _⟩
  · have := len_pos_of hx; omega
  · have hf := flat2 (fun x : InsR => Value.string ⟨x.nm.toArray⟩) (fun x => Value.int .i64 x.na) xs k
    rw [hx] at hf
    exact ⟨g, cap, rfl, row_key h _ _ hf.1, row_key h _ _ hf.2, hg⟩
theorem rowP_cells {w : World} {B : Nat} {v : Value} {xs : List InsR} (h : w.ownsRow B 3 1 v xs.length (cellsP xs)) {k : Nat} {x : InsR} (hx : xs[k]? = some x) :
    ∃ g cap, v = .slice (some ⟨g, 0, none⟩) xs.length cap ∧ w.cell? ⟨g, k, none⟩ = some (.int .i64 x.p) ∧ g < w.heap.size := by
  rcases own_form h with ⟨_, h0⟩ | ⟨g, cap, rfl, _, hg, _⟩
  · have := len_pos_of hx; omega
  · exact ⟨g, cap, rfl, row_key h _ _ (by simp [cellsP, hx]), hg⟩
theorem asm_start (w wl : World) (hb : Below (w.heap.size + 1) (w.alloc (.cells #[.slice none 0 0, .slice none 0 0, .slice none 0 0, .int .i64 0, .slice none 0 0] 77)) wl) :
    AsmAt wl wl.heap.size w.heap.size (.slice none 0 0) (.slice none 0 0) (.slice none 0 0) (.slice none 0 0) [] [] 0 where
  bX := by have := hb.size; rw [size_al] at this; omega
  cells := by rw [hb.block _ (by omega)]; exact heap_new _ _
  ops := World.ownsRow_nil _ _ _ _
  ats := World.ownsRow_nil _ _ _ _
  names := World.ownsRow_nil _ _ _ _
  labs := World.ownsRow_nil _ _ _ _
  ne := fun g h => by cases h
  few := by simp
set_option maxRecDepth 100000 in
set_option maxHeartbeats 3200000 in
theorem parse14_any (t : ByteArray) (w : World) (ht : t.size ≤ 1048575) :
    Calls Tryd.prog 8 #[.string t] w (ParsePost w t.data.toList) := by
  have hln : t.data.toList.length = t.size := Array.length_toList
  have hsl := splitL_length t.data.toList
  have hcl := List.count_le_length (a := (10 : UInt8)) (l := t.data.toList)
  have HSL := Lib.hid hsl
  have hsn : (splitL t.data.toList).length ≤ 1048576 := by omega
  go_enter Tryd.func8, Tryd.ntmps8
  go_wp2_with (go_at_call 27; refine (lines_any t _ (by omega)).mono ?_; rintro e wl ⟨out, vs, rfl, hbl, hvl, hrow, hold⟩)
  rw [size_al] at hbl hrow hold
  have hA0 := asm_start w wl hbl
  have hvs0 : 0 < vs.length := by rw [hvl, hsl]; omega
  obtain ⟨G, cap, rfl, hGX, hGl, hGc, hGm⟩ : ∃ G cap, out = .slice (some ⟨G, 0, none⟩) vs.length cap ∧ w.heap.size + 1 ≤ G ∧ G < wl.heap.size ∧ vs.length ≤ cap ∧ cap ≤ maxLen := by
    rcases own_form hrow with ⟨_, h⟩ | ⟨G, cap, h⟩
    · omega
    · exact ⟨G, cap, h⟩
  have hbw : Below w.heap.size w wl := ((Below.refl _ _).alloc (Nat.le_refl _) _).trans (hbl.mono (by omega))
  obtain ⟨n, hn⟩ : ∃ n, vs.length = n := ⟨_, rfl⟩
  have hn2 : n ≤ 1048576 := by rw [← hn, hvl]; exact hsn
  obtain ⟨X, hX⟩ : ∃ X, w.heap.size = X := ⟨_, rfl⟩
  have HA0 := Lib.hid hA0
  have HB := Lib.hid hbw
  have HV := Lib.hid hvl
  have HROW := Lib.hid hrow
  have HOLD := Lib.hid hold
  have HX := Lib.hid hX
  have HN := Lib.hid hn
  rw [hX] at hGX ⊢
  rw [hn]
  clear hsl hcl hA0 hbl hvl hrow hold hbw hX hn hsn hvs0
  go_loopw [7] (fun i wr => ∃ (k a : Nat) (st : PSt) (vO vA vN vL : Value), i = .int .i64 k ∧ k ≤ n ∧ Hid (Loop14 w wl wr t.data.toList X k a st vO vA vN vL)) (fun i _ => n - (intOf i).toNat)
  case atStart =>
    exact ⟨0, 0, ⟨[], [], 0⟩, _, _, _, _, rfl, by omega, rfl, rfl, by rw [← HX.out]; exact HA0.out, KeptX.refl _ _ _, ⟨by simp, by simp, rfl, by simp⟩, by simp⟩
  case round =>
    obtain ⟨k, a, st, vO, vA, vN, vL, rfl, hk, HL⟩ := hrel
    by_cases hlt : k < n
    · have hkv : k < vs.length := by rw [HN.out]; exact hlt
      have hks : k < (splitL t.data.toList).length := by rw [← HV.out, HN.out]; exact hlt
      obtain ⟨v, hv⟩ : ∃ v, vs[k]? = some v := ⟨_, List.getElem?_eq_getElem hkv⟩
      obtain ⟨l, hl⟩ : ∃ l, (splitL t.data.toList)[k]? = some l := ⟨_, List.getElem?_eq_getElem hks⟩
      have hofs := offs_get _ 0 k l hl
      rw [Nat.zero_add, ← HL.out.sum] at hofs
      have hrw := HOLD.out k v _ hv hofs
      have hbB : ∀ g, v.ownBlock = some g → g < wl.heap.size ∧ g ≠ X := fun g hg => by
        have := own_lt hrw hg
        have := HX.out
        exact ⟨by omega, by omega⟩
      have hrw2 := own_same hrw (w' := wr) fun g hg => HL.out.kept.block g (hbB g hg).1 (hbB g hg).2
      have hsum := lsum_take_le _ k l hl
      rw [lsum_split, hln] at hsum
      have hal : a + l.length + 1 ≤ t.size + 1 := by rw [HL.out.sum]; omega
      have hGk : wr.heap[G]? = wl.heap[G]? := HL.out.kept.block G hGl (by omega)
      have hcell : wr.cell? ⟨G, k * 2, none⟩ = some v := by
        rw [World.cell?_of_block (a := ⟨G, _, none⟩) hGk, own_cell HROW.out (k * 2) (by rw [cellsV_length]; omega), ← List.getElem?_eq_getElem]
        have := (flat2 (fun v : Value => v) (fun _ => Value.string ⟨#[]⟩) vs k).1
        rw [hv] at this
        exact this
      have hGw : G < wr.heap.size := Nat.lt_of_lt_of_le hGl HL.out.kept.size
      have HLC := Lib.hid (line14_any wl.heap.size X vO vA vN vL st.ls st.xs st.size a l v _ wr HL.out.rd hrw2 hbB (by omega) (by omega) HL.out.kept.size (by have := HL.out.few; omega))
      have HLL := Lib.hid hl
      clear hrw hrw2 hbB hofs hsum hl hv
      cases hlf : lineF codeOf st.ls st.size (toksAt a l) with
      | error x =>
        obtain ⟨e9, a9⟩ := x
        have he9 := lineF_err hlf
        have hn2 : (e9 == 0) = false := by simpa using he9
        have hn3 : (e9 != 0) = true := by simpa using he9
        have HLF := Lib.hid hlf
        have hpf : parseF t.data.toList = .error (e9, a9) := by
          have e : (splitL t.data.toList)[k] = l := by have := HLL.out; rw [List.getElem?_eq_getElem hks] at this; exact Option.some.inj this
          rw [parseF, HL.out.run, List.drop_eq_getElem_cons hks, e, runL, hlf]
        have HPF := Lib.hid hpf
        clear hlf he9 hpf
        go_wp2_with (go_at_call 28; refine HLC.out.mono ?_; rintro e w2 ⟨hk2, he⟩; rw [HLF.out] at he; obtain rfl := he)
        go_ret3
        refine ⟨?_, by rw [HPF.out]; rfl⟩
        have hk3 := HL.out.kept.trans hk2
        have h1 := HB.out
        have h2 := h1.size
        exact ⟨hk3.os.trans h1.os, hk3.tape.trans h1.tape, hk3.output.trans h1.output, Nat.le_trans h2 hk3.size, fun q hq => by
          have := HX.out
          rw [hk3.block q (by omega) (by omega), h1.block q hq]⟩
      | ok x =>
        obtain ⟨ls', r⟩ := x
        have HLF := Lib.hid hlf
        clear hlf
        cases r with
        | none =>
          go_wp2_with (go_at_call 28; refine HLC.out.mono ?_; rintro e w2 ⟨hk2, he⟩; rw [HLF.out] at he; obtain ⟨rfl, vO', vA', vN', vL', hA'⟩ := he)
          go_roundw
          case rel => exact ⟨k + 1, a + l.length + 1, ⟨ls', st.xs, st.size⟩, vO', vA', vN', vL', by go_num, by omega, HL.out.step HLL.out hk2 HLF.out rfl hA'⟩
          case measure => first | (simp [intOf]; done) | (simp [intOf]; omega)
        | some x9 =>
          go_wp2_with (go_at_call 28; refine HLC.out.mono ?_; rintro e w2 ⟨hk2, he⟩; rw [HLF.out] at he; obtain ⟨rfl, vO', vA', vN', vL', hA'⟩ := he)
          go_roundw
          case rel => exact ⟨k + 1, a + l.length + 1, ⟨ls', st.xs ++ [x9], st.size + (1 + widthN (shapeN x9.c))⟩, vO', vA', vN', vL', by go_num, by omega, HL.out.step HLL.out hk2 HLF.out rfl hA'⟩
          case measure => first | (simp [intOf]; done) | (simp [intOf]; omega)
    · have hkn : n = k := by omega
      have hrun := HL.out.run
      rw [List.drop_eq_nil_of_le (by rw [← HV.out, HN.out]; omega), runL] at hrun
      have hbel : Below w.heap.size w wr := by
        have hk3 := HL.out.kept
        have h1 := HB.out
        have h2 := h1.size
        exact ⟨hk3.os.trans h1.os, hk3.tape.trans h1.tape, hk3.output.trans h1.output, Nat.le_trans h2 hk3.size, fun q hq => by
          have := HX.out
          rw [hk3.block q (by omega) (by omega), h1.block q hq]⟩
      have HBEL := Lib.hid hbel
      have HRUN := Lib.hid hrun
      obtain ⟨wo, rfl⟩ : ∃ wo : World, wo = wr := ⟨_, rfl⟩
      have hA := HL.out.rd
      have HA := Lib.hid hA
      have HRD := Lib.hid HL.out.read
      have hfew := hA.few
      have c0 := box_cell hA.cells 0
      have c1 := box_cell hA.cells 1
      have c2 := box_cell hA.cells 2
      simp at c0 c1 c2
      have hXl := heap_lt hA.cells
      have hlsn : st.ls.length ≤ 1048576 := by have := HL.out.few; omega
      clear hrun hbel hA HL hkn
      have hvO := own_form HA.out.ops
      rcases hvO with ⟨rfl, h0⟩ | ⟨gO, capO, rfl, _, hgO, hcO, hmO⟩
      · have hxs : st.xs = [] := List.length_eq_zero_iff.1 h0
        have HXS := Lib.hid hxs
        clear hxs h0
        go_wp2_with fail
        go_loopw [10, 11] (fun o i w3 => o = .string ⟨#[]⟩ ∧ i = .int .i64 0 ∧ Hid (w3 = wo)) (fun _ _ _ => 0)
        case atStart => exact ⟨rfl, rfl, rfl⟩
        case round =>
          obtain ⟨rfl, rfl, hw3⟩ := hrel
          obtain rfl := hw3.out
          go_wp2
          go_ret3
          refine ⟨HBEL.out, ?_⟩
          have hpf : parseF t.data.toList = .ok [] := by rw [parseF, HRUN.out]; simp only [HXS.out, resolveL]; rfl
          rw [hpf]
          rfl
      · go_wp2_with fail
        go_loopw [10, 11] (fun o i w3 => ∃ (k : Nat) (acc : List Ins), o = .string ⟨(encAll acc).toArray⟩ ∧ i = .int .i64 k ∧ k ≤ st.xs.length ∧ Hid (resolveL st.ls st.xs [] = resolveL st.ls (st.xs.drop k) acc ∧ Below wo.heap.size wo w3 ∧ acc.length = k)) (fun _ i _ => st.xs.length - (intOf i).toNat)
        case atStart => exact ⟨0, [], rfl, rfl, Nat.zero_le _, rfl, Below.refl _ _, rfl⟩
        case round =>
          obtain ⟨k, acc, rfl, rfl, hk2, H3⟩ := hrel
          obtain ⟨hres, hb3, hacc⟩ := H3.out
          by_cases hlt2 : k < st.xs.length
          · obtain ⟨x, hx⟩ : ∃ x, st.xs[k]? = some x := ⟨_, List.getElem?_eq_getElem hlt2⟩
            have hA3 := HA.out.below hb3
            have hel := encAll_le acc
            have hxr := HRD.out.2.1 x (List.mem_of_getElem? hx)
            obtain ⟨o0, o1⟩ := rowO_cells hA3.ops hx
            obtain ⟨gN, capN, rfl, n0, n1, hgN⟩ := rowN_cells hA3.names hx
            obtain ⟨gA, capA, rfl, a0, hgA⟩ := rowP_cells hA3.ats hx
            have b0 := box_cell hA3.cells 0
            have b1 := box_cell hA3.cells 1
            have b2 := box_cell hA3.cells 2
            simp at b0 b1 b2
            have hXl3 := heap_lt hA3.cells
            have hgO3 := (own_lt hA3.ops rfl).1
            rw [List.drop_eq_getElem_cons hlt2, show st.xs[k] = x from Option.some.inj ((List.getElem?_eq_getElem hlt2).symm.trans hx)] at hres
            obtain ⟨xc, xo, xp, xn, xa⟩ := x
            obtain ⟨x41, x64, xp512, xfit, xlead⟩ := hxr
            simp only at o0 o1 n0 n1 a0 x41 x64 xp512
            have HRES := Lib.hid hres
            have HB3 := Lib.hid hb3
            have HAC := Lib.hid hacc
            have HA3 := Lib.hid hA3
            have hac9 : (encAll acc).length ≤ 5000 := by omega
            have hE : ∀ o, (Ins.enc ⟨xc, o⟩).length ≤ 9 := fun o => by rw [enc_length]; have := widthN_cases (shapeN xc); simp only [Ins.len, Ins.w]; omega
            obtain ⟨wi, rfl⟩ : ∃ wi : World, wi = wr := ⟨_, rfl⟩
            have hbi := hb3.size
            clear hres hb3 hacc hA3 hel hx c0 c1 c2 H3 xfit xlead
            by_cases hnm : xn = []
            · subst hnm
              have hr1 : resolve1 st.ls ⟨xc, xo, xp, [], xa⟩ = .ok ⟨xc, xo⟩ := by unfold resolve1; rw [if_pos rfl]
              have HR1 := Lib.hid hr1
              clear hr1
              have hE1 := hE xo
              go_wp2_with (go_at_call 30; refine (bytes13_any xc xo _ x41).mono ?_; rintro e w4 ⟨rfl, hb4⟩)
              refine ⟨⟨k + 1, acc ++ [⟨xc, xo⟩], ?_, by go_num, by omega, ?_, HB3.out.trans ((Below.trans (by repeat (first | exact Below.refl _ _ | refine Below.drew ?_ | refine Below.drewN ?_ _ | refine Below.setCell ?_ (by simp) _ | refine Below.alloc ?_ (by simp) _)) (hb4.mono (by simp))).mono hbi), by rw [List.length_append, HAC.out]; rfl⟩, by simp [intOf]; omega⟩
              · rw [ByteArray.mk_append_mk]
                have e : encAll (acc ++ [⟨xc, xo⟩]) = encAll acc ++ Ins.enc ⟨xc, xo⟩ := by simp [encAll]
                rw [e]
              · rw [HRES.out, resolveL, HR1.out]
            · have hq : ((⟨xn.toArray⟩ : ByteArray).toList.isEmpty) = false := by
                rw [ByteArray.toList_eq]
                cases xn with
                | nil => exact absurd rfl hnm
                | cons b l => rfl
              have hq2 : ((⟨xn.toArray⟩ : ByteArray).toList = []) = False := by
                rw [ByteArray.toList_eq]
                simpa using hnm
              obtain ⟨z, hz⟩ : ∃ z : ByteArray, z = ⟨xn.toArray⟩ := ⟨_, rfl⟩
              have hzd : z.data.toList = xn := by rw [hz]
              rw [← hz] at hq hq2 n0
              have hAW := HA3.out.below ((Below.refl _ _).alloc (Nat.le_refl _) (.cells #[.int .i64 xc, .int .i64 xo] 35))
              have HLB := Lib.hid (label_any14 wl.heap.size X _ _ _ vL st.ls st.xs st.size z _ hAW (by omega))
              clear hz hAW
              cases hk : lookN st.ls xn with
              | none =>
                have hr1 : resolve1 st.ls ⟨xc, xo, xp, xn, xa⟩ = .error (11, xa) := by unfold resolve1; rw [if_neg hnm]; simp only [hk]
                have hpf : parseF t.data.toList = .error (11, xa) := by rw [parseF, HRUN.out]; simp only [HRES.out, resolveL, hr1]
                have HPF := Lib.hid hpf
                have hlv : lookV st.ls z.data.toList = -1 := by rw [lookV, hzd, hk]
                have HLV := Lib.hid hlv
                clear hpf hlv hk hr1 hzd hnm
                go_wp2_with (go_at_call 29; refine HLB.out.mono ?_; rw [HLV.out]; rintro e w4 ⟨rfl, h4⟩; rw [h4]; clear h4 w4)
                go_quiet (fail)
                go_wp2_with fail
                go_ret3
                refine ⟨HBEL.out.trans ((HB3.out.trans (Below.mono (by repeat (first | exact Below.refl _ _ | refine Below.drew ?_ | refine Below.drewN ?_ _ | refine Below.setCell ?_ (by simp) _ | refine Below.alloc ?_ (by simp) _)) hbi)).mono HBEL.out.size), by rw [HPF.out]; rfl⟩
              | some m =>
                have hm512 := lookN_le HRD.out.1 hk
                have hlv : lookV st.ls z.data.toList = m := by rw [lookV, hzd, hk]
                have HLV := Lib.hid hlv
                by_cases h26 : xc = 26
                · have hr1 : resolve1 st.ls ⟨xc, xo, xp, xn, xa⟩ = .ok ⟨xc, m⟩ := by unfold resolve1; rw [if_neg hnm]; simp only [hk, if_pos h26]
                  have HR1 := Lib.hid hr1
                  have e26 : ((xc : Int) != 26) = false := by rw [h26]; rfl
                  have hE1 := hE m
                  clear hlv hk hr1 hzd hnm h26
                  go_wp2_with (first | (go_at_call 29; refine HLB.out.mono ?_; rw [HLV.out]; rintro e w4 ⟨rfl, h4⟩; rw [h4]; clear h4 w4) | (go_at_call 30; refine (bytes13_any xc m _ x41).mono ?_; rintro e w4 ⟨rfl, hb4⟩))
                  refine ⟨⟨k + 1, acc ++ [⟨xc, m⟩], ?_, by go_num, by omega, ?_, HB3.out.trans ((Below.trans (by repeat (first | exact Below.refl _ _ | refine Below.drew ?_ | refine Below.drewN ?_ _ | refine Below.setCell ?_ (by simp) _ | refine Below.alloc ?_ (by simp) _)) (hb4.mono (by simp))).mono hbi), by rw [List.length_append, HAC.out]; rfl⟩, by simp [intOf]; omega⟩
                  · rw [ByteArray.mk_append_mk]
                    have e : encAll (acc ++ [⟨xc, m⟩]) = encAll acc ++ Ins.enc ⟨xc, m⟩ := by simp [encAll]
                    rw [e]
                  · rw [HRES.out, resolveL, HR1.out]
                · have hr1 : resolve1 st.ls ⟨xc, xo, xp, xn, xa⟩ = .ok ⟨xc, (m : Int) - xp - 3⟩ := by
                    unfold resolve1
                    rw [if_neg hnm]
                    simp only [hk, if_neg h26]
                    congr 2
                    omega
                  have HR1 := Lib.hid hr1
                  have e26 : ((xc : Int) != 26) = true := by
                    rw [bne_iff_ne]
                    omega
                  have hE1 := hE ((m : Int) - xp - 3)
                  clear hlv hk hr1 hzd hnm h26
                  go_wp2_with (first | (go_at_call 29; refine HLB.out.mono ?_; rw [HLV.out]; rintro e w4 ⟨rfl, h4⟩; rw [h4]; clear h4 w4) | (go_at_call 30; refine (bytes13_any xc _ _ x41).mono ?_; rintro e w4 ⟨rfl, hb4⟩))
                  refine ⟨⟨k + 1, acc ++ [⟨xc, (m : Int) - xp - 3⟩], ?_, by go_num, by omega, ?_, HB3.out.trans ((Below.trans (by repeat (first | exact Below.refl _ _ | refine Below.drew ?_ | refine Below.drewN ?_ _ | refine Below.setCell ?_ (by simp) _ | refine Below.alloc ?_ (by simp) _)) (hb4.mono (by simp))).mono hbi), by rw [List.length_append, HAC.out]; rfl⟩, by simp [intOf]; omega⟩
                  · rw [ByteArray.mk_append_mk]
                    have e : encAll (acc ++ [⟨xc, (m : Int) - xp - 3⟩]) = encAll acc ++ Ins.enc ⟨xc, (m : Int) - xp - 3⟩ := by simp [encAll]
                    rw [e]
                  · rw [HRES.out, resolveL, HR1.out]
          · have hA3 := HA.out.below hb3
            have b0 := box_cell hA3.cells 0
            simp at b0
            have hXl3 := heap_lt hA3.cells
            have hk3 : k = st.xs.length := by omega
            have hpf : parseF t.data.toList = .ok (encAll acc) := by
              rw [List.drop_eq_nil_of_le (by omega), resolveL] at hres
              have h1 := resolveL_read HRD.out.1 _ _ _ HRD.out.2.1 (by simp) hres
              have h2 : (encAll acc).length ≤ 512 := by
                have := h1.2
                have h3 := HRD.out.2.2
                rw [this]
                simp only [encAll, List.flatMap_nil, List.length_nil]
                omega
              rw [parseF, HRUN.out]
              simp only [hres]
              congr 1
              rw [encOut, encOut_R, encR_ok acc [] (fun x hx => (h1.1 x hx).1) (by simpa using h2)]
              rfl
            have HPF := Lib.hid hpf
            have HB3 := Lib.hid hb3
            clear hpf hres hacc hb3 hk3 H3 hA3 c0 c1 c2
            go_wp2
            go_ret3
            exact ⟨HBEL.out.trans (HB3.out.mono HBEL.out.size), by rw [HPF.out]; rfl⟩
end Go.Proofs.YtbigllcononkbaaDoor
