/- The walk of asm's (*reader).instruction. -/
import Derived.Test.YtbigllcononkbaaDoorC8
import Derived.Test.YtbigllcononkbaaDoorM1
import Derived.Deep.AppendLies
namespace Go.Proofs.YtbigllcononkbaaDoor
open Go Go.RowKit Go.Sort

noncomputable def strK : KeyEnc Tryd.prog 9 ByteArray := strKeys Tryd.prog 9 Tryd.underlying9
def cellsR (xs : List InsR) : List Value := xs.flatMap fun x => [.int .i64 x.c, .int .i64 x.o, .int .i64 x.p, .string ⟨x.nm.toArray⟩, .int .i64 x.na]
theorem cellsR_snoc (xs : List InsR) (x : InsR) : cellsR (xs ++ [x]) = cellsR xs ++ [.int .i64 x.c, .int .i64 x.o, .int .i64 x.p, .string ⟨x.nm.toArray⟩, .int .i64 x.na] := by simp [cellsR]
theorem infoIns : (Tryd.prog.info? 70).map (fun i => (i.zero, i.size, i.bytes)) = some (some (.agg #[.int .i64 0, .int .i64 0, .int .i64 0, .string ⟨#[]⟩, .int .i64 0]), 5, 48) := by kernel_rfl
/-- A reader lies in block R, its maps in M1 and M2; all from block B on. -/
structure RdAt (w : World) (B R M1 M2 : Nat) (codes : List UInt8 → Option Nat) (labels : List (ByteArray × Value)) (lv : Value) (xs : List InsR) (size : Nat) : Prop where
  b11 : 11 < B
  bR : B ≤ R
  bM1 : B ≤ M1
  bM2 : B ≤ M2
  ne : M1 ≠ M2
  cells : w.heap[R]? = some (.cells #[.map (some M1), .map (some M2), lv, .int .i64 size] 62 (0, 0))
  cmap : ∃ cl, MapIs strK w M1 cl ∧ (∀ s : ByteArray, lookL cl s = (codes s.data.toList).map fun c => .int .i64 c) ∧ ∀ s c, codes s = some c → c < 41
  lmap : MapIs strK w M2 labels
  row : w.ownsRow B 70 5 lv xs.length (cellsR xs)
  few : xs.length ≤ size ∧ size ≤ 512
theorem RdAt.same {w w' : World} {B R M1 M2 : Nat} {codes : List UInt8 → Option Nat} {labels : List (ByteArray × Value)} {lv : Value} {xs : List InsR} {size : Nat} (h : RdAt w B R M1 M2 codes labels lv xs size) (hh : w'.heap = w.heap) (_ : True) : RdAt w' B R M1 M2 codes labels lv xs size where
  b11 := h.b11
  bR := h.bR
  bM1 := h.bM1
  bM2 := h.bM2
  ne := h.ne
  cells := by rw [hh]; exact h.cells
  cmap := by
    obtain ⟨cl, h1, h2⟩ := h.cmap
    exact ⟨cl, h1.of_block strK (by rw [hh]), h2⟩
  lmap := h.lmap.of_block strK (by rw [hh])
  row := by
    obtain ⟨h1, h2⟩ := h.row
    exact ⟨h1, by rw [hh]; exact h2⟩
  few := h.few
/-- Tokens lie behind a place. -/
def TokAt (w : World) (g off : Nat) (ts : List Tok) : Prop :=
  ts.length ≤ 1048577 ∧ (∀ t ∈ ts, t.1.length ≤ 1048576 ∧ 0 ≤ t.2 ∧ t.2 ≤ 2097152) ∧ g < w.heap.size ∧
  ∀ i t, ts[i]? = some t → w.cell? ⟨g, off + i * 2, none⟩ = some (.string ⟨t.1.toArray⟩) ∧ w.cell? ⟨g, off + i * 2 + 1, none⟩ = some (.int .i64 t.2)
theorem TokAt.head {w : World} {g off : Nat} {t : Tok} {ts : List Tok} (h : TokAt w g off (t :: ts)) : w.cell? ⟨g, off, none⟩ = some (.string ⟨t.1.toArray⟩) ∧ w.cell? ⟨g, off + 1, none⟩ = some (.int .i64 t.2) := by
  have := h.2.2.2 0 t rfl
  simpa using this
theorem TokAt.tail {w : World} {g off : Nat} {t : Tok} {ts : List Tok} (h : TokAt w g off (t :: ts)) : TokAt w g (off + 2) ts := by
  obtain ⟨h1, h2, h3, h4⟩ := h
  refine ⟨by simp at h1; omega, fun x hx => h2 x (List.mem_cons_of_mem _ hx), h3, fun i x hx => ?_⟩
  have := h4 (i + 1) x (by simpa using hx)
  rw [show off + (i + 1) * 2 = off + 2 + i * 2 by omega] at this
  exact this
theorem TokAt.below {w w' : World} {g off : Nat} {ts : List Tok} (h : TokAt w g off ts) (hb : w'.heap[g]? = w.heap[g]?) : TokAt w' g off ts := by
  obtain ⟨h1, h2, h3, h4⟩ := h
  refine ⟨h1, h2, ?_, fun i x hx => ?_⟩
  · have : w.heap[g]? ≠ none := by simp; omega
    rw [← hb] at this
    simpa using this
  · rw [World.cell?_of_block (a := ⟨g, _, none⟩) hb, World.cell?_of_block (a := ⟨g, _, none⟩) hb]
    exact h4 i x hx
/-- What a reader's step may turn: its block, its labels, its row (and new blocks). -/
structure FrameR (w w' : World) (R M2 : Nat) (lv : Value) : Prop where
  os : w'.os = w.os
  tape : w'.tape = w.tape
  output : w'.output = w.output
  size : w.heap.size ≤ w'.heap.size
  block : ∀ k, k < w.heap.size → k ≠ R → k ≠ M2 → some k ≠ lv.ownBlock → w'.heap[k]? = w.heap[k]?
theorem FrameR.refl (w : World) (R M2 : Nat) (lv : Value) : FrameR w w R M2 lv := ⟨rfl, rfl, rfl, Nat.le_refl _, fun _ _ _ _ _ => rfl⟩
theorem FrameR.then_below {w w1 w2 : World} {R M2 : Nat} {lv : Value} (h : FrameR w w1 R M2 lv) (hb : Below w1.heap.size w1 w2) : FrameR w w2 R M2 lv :=
  ⟨hb.os.trans h.os, hb.tape.trans h.tape, hb.output.trans h.output, Nat.le_trans h.size hb.size, fun k hk h1 h2 h3 => by rw [hb.block k (Nat.lt_of_lt_of_le hk h.size)]; exact h.block k hk h1 h2 h3⟩
theorem FrameR.then_grown {w w1 w2 : World} {R M2 X : Nat} {lv : Value} (h : FrameR w w1 R M2 lv) (hg : w1.grownBy w2 (some X)) (hX : w.heap.size ≤ X ∨ X = M2) : FrameR w w2 R M2 lv :=
  ⟨hg.os.trans h.os, hg.tape.trans h.tape, hg.output.trans h.output, Nat.le_trans h.size hg.size, fun k hk h1 h2 h3 => by rw [hg.block k (Nat.lt_of_lt_of_le hk h.size) (by simp; omega)]; exact h.block k hk h1 h2 h3⟩
theorem FrameR.trans {w w1 w2 : World} {R M2 : Nat} {lv : Value} (h : FrameR w w1 R M2 lv) (h2 : FrameR w1 w2 R M2 lv) : FrameR w w2 R M2 lv :=
  ⟨h2.os.trans h.os, h2.tape.trans h.tape, h2.output.trans h.output, Nat.le_trans h.size h2.size, fun k hk a b c => by rw [h2.block k (Nat.lt_of_lt_of_le hk h.size) a b c]; exact h.block k hk a b c⟩
theorem FrameR.below {w w' : World} {B R M1 M2 : Nat} {codes : List UInt8 → Option Nat} {labels : List (ByteArray × Value)} {lv : Value} {xs : List InsR} {size : Nat} (h : FrameR w w' R M2 lv) (hR : RdAt w B R M1 M2 codes labels lv xs size) : Below B w w' :=
  ⟨h.os, h.tape, h.output, h.size, fun k hk => by
    have := hR.bR
    have := hR.bM2
    have := heap_lt hR.cells
    exact h.block k (by omega) (by omega) (by omega) (by
      rcases own_form hR.row with ⟨rfl, _⟩ | ⟨g9, c9, rfl, h9, _⟩
      · simp [Value.ownBlock]
      · simp [Value.ownBlock]; omega)⟩
def InsPost (lv : Value) (w : World) (B R M1 M2 : Nat) (codes : List UInt8 → Option Nat) (labels : List (ByteArray × Value)) (xs : List InsR) (size : Nat) (ts : List Tok) (e : Ending) (w' : World) : Prop :=
  FrameR w w' R M2 lv ∧
  match insF codes size ts with
  | .error (n, a) => e = gaveUp n a
  | .ok i => e = .returned (.tuple #[]) ∧ ∃ lv, RdAt w' B R M1 M2 codes labels lv (xs ++ [i]) (size + (1 + widthN (shapeN i.c)))

set_option maxRecDepth 100000 in
set_option maxHeartbeats 1600000 in
/-- No such word. -/
theorem ins_word (B R M1 M2 : Nat) (codes : List UInt8 → Option Nat) (labels : List (ByteArray × Value)) (lv : Value) (xs : List InsR) (size g off cap : Nat) (t0 : Tok) (ts : List Tok) (w : World)
    (hR : RdAt w B R M1 M2 codes labels lv xs size) (hT : TokAt w g off (t0 :: ts)) (hc : codes t0.1 = none) :
    Calls Tryd.prog 43 #[.pointer (some ⟨R, 0, none⟩), .slice (some ⟨g, off, none⟩) (ts.length + 1) cap] w (InsPost lv w B R M1 M2 codes labels xs size (t0 :: ts)) := by
  have hp : insF codes size (t0 :: ts) = .error (9, t0.2) := by simp only [insF, hc]
  have HP := Lib.hid hp
  clear hp
  have hr0 := box_cell hR.cells 0
  simp only [List.getElem?_toArray, List.getElem?_cons_zero] at hr0
  obtain ⟨ht0, ht1⟩ := hT.head
  obtain ⟨cl, hcm, hcl, _⟩ := hR.cmap
  have hz : ∀ W, (zeroValue 3).run Tryd.prog W = .ok (.int .i64 0) W := fun W => by kernel_rfl
  have hlk : ∀ nq, (Instr.lookup 59 (.map (some M1)) (.string ⟨t0.1.toArray⟩) true).run Tryd.prog (w.drewN nq) = .ok (.tuple #[.int .i64 0, .bool false]) (w.drewN nq) := fun nq => by
    have := MapIs.look (w := w.drewN nq) strK (hcm.of_block strK (w' := w.drewN nq) rfl) Tryd.underlying59 (hz _) ⟨t0.1.toArray⟩
    rw [hcl] at this
    simp only [hc, Option.map_none] at this
    exact this
  clear hR hcm hcl hz hT
  go_enter Tryd.func43, Tryd.ntmps43
  go_wp2_with fail
  go_quiet (fail)
  go_wp2_with ((go_at_call 25; refine (fail_any _ _ _).mono ?_; rintro e w3 ⟨rfl, rfl⟩))
  exact ⟨rfl, ⟨rfl, rfl, rfl, Nat.le_refl _, fun _ _ _ _ _ => rfl⟩, by rw [HP.out]; rfl⟩
/-- The lookup of a word that is one. -/
theorem look_word {w : World} {B R M1 M2 : Nat} {codes : List UInt8 → Option Nat} {labels : List (ByteArray × Value)} {lv : Value} {xs : List InsR} {size c : Nat} {t0 : Tok} (hR : RdAt w B R M1 M2 codes labels lv xs size) (hc : codes t0.1 = some c) (nq : Nat) :
    (Instr.lookup 59 (.map (some M1)) (.string ⟨t0.1.toArray⟩) true).run Tryd.prog (w.drewN nq) = .ok (.tuple #[.int .i64 c, .bool true]) (w.drewN nq) := by
  obtain ⟨cl, hcm, hcl, _⟩ := hR.cmap
  have hz : ∀ W, (zeroValue 3).run Tryd.prog W = .ok (.int .i64 0) W := fun W => by kernel_rfl
  have := MapIs.look (w := w.drewN nq) strK (hcm.of_block strK (w' := w.drewN nq) rfl) Tryd.underlying59 (hz _) ⟨t0.1.toArray⟩
  rw [hcl] at this
  simp only [hc, Option.map_some] at this
  exact this
/-- The box of an instruction that was just begun. -/
def boxR (c size : Nat) : Obj := .cells #[.int .i64 c, .int .i64 0, .int .i64 size, .string ⟨#[]⟩, .int .i64 0] 70

theorem own_ne_map {P : Program} {t : TypeId} {κ : Type} [DecidableEq κ] (K : KeyEnc P t κ) {w : World} {B e size n M : Nat} {v : Value} {xs : List Value} {l : List (κ × Value)} (h : w.ownsRow B e size v n xs) (hm : MapIs K w M l) : some M ≠ v.ownBlock := by
  intro he
  obtain ⟨_, h2⟩ := h
  rcases h2 with ⟨rfl, _⟩ | ⟨g, cap, cur, rfl, hg, hh, _⟩
  · cases he
  · cases he
    exact hm.ne_row K hh rfl
theorem own_setCell {w : World} {B e size n : Nat} {v : Value} {xs : List Value} (h : w.ownsRow B e size v n xs) {a : Addr} (hne : some a.block ≠ v.ownBlock) (u : Value) : (w.setCell a u).ownsRow B e size v n xs := by
  obtain ⟨h1, h2⟩ := h
  refine ⟨h1, ?_⟩
  rcases h2 with h2 | ⟨g, cap, cur, rfl, hg, hh, r⟩
  · exact .inl h2
  · exact .inr ⟨g, cap, cur, rfl, hg, by rw [Below.heap_setCell _ _ _ _ (fun e => hne (by rw [← e]; rfl))]; exact hh, r⟩
theorem RdAt.grown {w w' : World} {B R M1 M2 X : Nat} {codes : List UInt8 → Option Nat} {labels : List (ByteArray × Value)} {lv : Value} {xs : List InsR} {size : Nat} (h : RdAt w B R M1 M2 codes labels lv xs size)
    (hg : w.grownBy w' (some X)) (hR : R ≠ X) (h1 : M1 ≠ X) (h2 : M2 ≠ X) (hrow : some X ≠ lv.ownBlock) : RdAt w' B R M1 M2 codes labels lv xs size where
  b11 := h.b11
  bR := h.bR
  bM1 := h.bM1
  bM2 := h.bM2
  ne := h.ne
  cells := by rw [hg.block R (heap_lt h.cells) (by simpa using hR)]; exact h.cells
  cmap := by
    obtain ⟨cl, c1, c2⟩ := h.cmap
    exact ⟨cl, c1.of_block strK (hg.block _ (c1.lt strK) (by simpa using h1)), c2⟩
  lmap := h.lmap.of_block strK (hg.block _ (h.lmap.lt strK) (by simpa using h2))
  row := by
    obtain ⟨r1, r2⟩ := h.row
    refine ⟨r1, ?_⟩
    rcases r2 with r2 | ⟨gg, cap, cur, rfl, r3, r4, r5⟩
    · exact .inl r2
    · exact .inr ⟨gg, cap, cur, rfl, r3, by rw [hg.block gg (heap_lt r4) (by simpa using fun e => hrow (by rw [← e]; rfl))]; exact r4, r5⟩
  few := h.few
theorem RdAt.below {w w' : World} {B R M1 M2 : Nat} {codes : List UInt8 → Option Nat} {labels : List (ByteArray × Value)} {lv : Value} {xs : List InsR} {size : Nat} (h : RdAt w B R M1 M2 codes labels lv xs size)
    (hb : Below w.heap.size w w') : RdAt w' B R M1 M2 codes labels lv xs size where
  b11 := h.b11
  bR := h.bR
  bM1 := h.bM1
  bM2 := h.bM2
  ne := h.ne
  cells := by rw [hb.block R (heap_lt h.cells)]; exact h.cells
  cmap := by
    obtain ⟨cl, c1, c2⟩ := h.cmap
    exact ⟨cl, c1.below strK hb, c2⟩
  lmap := h.lmap.below strK hb
  row := own_below h.row hb
  few := h.few
/-- A new block is none of the reader's. -/
theorem RdAt.apart {w : World} {B R M1 M2 : Nat} {codes : List UInt8 → Option Nat} {labels : List (ByteArray × Value)} {lv : Value} {xs : List InsR} {size : Nat} (h : RdAt w B R M1 M2 codes labels lv xs size) : R ≠ w.heap.size ∧ M1 ≠ w.heap.size ∧ M2 ≠ w.heap.size ∧ some w.heap.size ≠ lv.ownBlock := by
  refine ⟨Nat.ne_of_lt (heap_lt h.cells), ?_, Nat.ne_of_lt (h.lmap.lt strK), ?_⟩
  · obtain ⟨cl, c1, _⟩ := h.cmap
    exact Nat.ne_of_lt (c1.lt strK)
  · rcases own_form h.row with ⟨rfl, _⟩ | ⟨gg, cap, rfl, _, hlt, _⟩
    · simp [Value.ownBlock]
    · simp [Value.ownBlock]; omega

/-- What is known at the test behind an operand. -/
def Mid (w wd : World) (B R M1 M2 : Nat) (codes : List UInt8 → Option Nat) (labels : List (ByteArray × Value)) (lv : Value) (xs : List InsR) (size g X c : Nat) (t0 : Tok) (ts ts' : List Tok) (o : Int) (nm : Tok) (off off' cap' : Nat) : Prop :=
  opStage c t0 ts = .ok ((o, nm), ts') ∧ InsAt wd X c o size ⟨nm.1.toArray⟩ nm.2 ∧ RdAt wd B R M1 M2 codes labels lv xs size ∧ TokAt wd g off' ts' ∧ Env wd ∧ FrameR w wd R M2 lv ∧ ts'.length ≤ cap' ∧ B ≤ X ∧ some X ≠ lv.ownBlock ∧ wd.cell? ⟨g, off + 1, none⟩ = some (.int .i64 t0.2)

set_option maxRecDepth 100000 in
set_option maxHeartbeats 3200000 in
/-- A line's instruction, its word being one. -/
theorem ins_known (B R M1 M2 : Nat) (codes : List UInt8 → Option Nat) (labels : List (ByteArray × Value)) (lv : Value) (xs : List InsR) (size g off cap c : Nat) (t0 : Tok) (ts : List Tok) (w : World)
    (hR : RdAt w B R M1 M2 codes labels lv xs size) (hE : Env w) (hB : B ≤ w.heap.size) (hT : TokAt w g off (t0 :: ts)) (hc : codes t0.1 = some c) (hcap : ts.length + 1 ≤ cap) :
    Calls Tryd.prog 43 #[.pointer (some ⟨R, 0, none⟩), .slice (some ⟨g, off, none⟩) (ts.length + 1) cap] w (InsPost lv w B R M1 M2 codes labels xs size (t0 :: ts)) := by
  have hlk := look_word hR hc
  have hr0 := box_cell hR.cells 0
  simp only [List.getElem?_toArray, List.getElem?_cons_zero, List.getElem?_cons_succ] at hr0
  obtain ⟨ht0, ht1⟩ := hT.head
  have HR := Lib.hid hR
  have HT := Lib.hid hT
  have HE := Lib.hid hE
  have hlen : ts.length ≤ 1048577 := by have := hT.1; simp at this; omega
  clear hR hT hE
  go_enter Tryd.func43, Tryd.ntmps43
  go_wp2_with fail
  go_cut [4, 5] (fun v4 v5 wc => v4 = .int .i64 c ∧ v5 = .bool true ∧ Hid (FrameR w wc R M2 lv ∧ RdAt wc B R M1 M2 codes labels lv xs size ∧ TokAt wc g off (t0 :: ts) ∧ Env wc ∧ B ≤ wc.heap.size))
  case first =>
    go_quiet (fail)
    go_wp2
    go_meet
    case rel => exact ⟨rfl, rfl, ⟨rfl, rfl, rfl, Nat.le_refl _, fun _ _ _ _ _ => rfl⟩, HR.out.same rfl trivial, HT.out.below rfl, HE.out.of_blocks (Nat.le_refl _) fun _ _ => rfl, hB⟩
  case rest =>
    clear hr0 ht0 ht1 HR HT HE hlk hB
    obtain ⟨rfl, rfl, HH⟩ := hcut
    obtain ⟨hbw, hR, hT, hE, hB⟩ := HH.out
    have HC := Lib.hid hc
    have hr0 := box_cell hR.cells 0
    have hr3 := box_cell hR.cells 3
    simp only [List.getElem?_toArray, List.getElem?_cons_zero, List.getElem?_cons_succ] at hr0 hr3
    obtain ⟨hu0, hu1⟩ := hT.head
    have hg := hT.2.2.1
    obtain ⟨n, hn⟩ : ∃ n, 1 + widthN (shapeN c) = n := ⟨_, rfl⟩
    have hn9 : 1 ≤ n ∧ n ≤ 9 := by have := widthN_cases (shapeN c); omega
    have HN := Lib.hid hn
    have hc41 : c < 41 := by obtain ⟨_, _, _, h⟩ := hR.cmap; exact h _ _ hc
    have hRl := heap_lt hR.cells
    have HE := Lib.hid hE
    have HR := Lib.hid hR
    have HT := Lib.hid hT
    have HB := Lib.hid hbw
    have hwX := hbw.size
    have hsz := hR.few.2
    clear hR hT hn hE hc HH hbw
    go_upto_if 40 with ((go_at_call 11; refine (bytes_any c hc41 _ (by exact (Env.alloc HE.out (boxR c size)).tab)).mono ?_; rw [HN.out]; rintro e w2 ⟨rfl, hb⟩))
    have hbc : Below wc.heap.size wc w2 := ((Below.refl _ _).alloc (Nat.le_refl _) _).trans (hb.mono (by simp))
    obtain ⟨ha1, ha2, ha3, ha4⟩ := HR.out.apart
    have hX2 : InsAt w2 wc.heap.size c 0 size ⟨#[]⟩ 0 := by
      unfold InsAt
      rw [hb.block _ (by simp), heap_new]
    have hR2 := HR.out.below hbc
    have hT2 : TokAt w2 g off (t0 :: ts) := HT.out.below (hbc.block g hg)
    have hE2 : Env w2 := HE.out.grown hbc
    have hB2 : FrameR w w2 R M2 lv := HB.out.then_below hbc
    have hXl := heap_lt hX2
    obtain ⟨off2, he, hT3⟩ : ∃ off2, (if cap = 1 then some (⟨g, off, none⟩ : Addr) else some ⟨g, off + 2, none⟩) = some ⟨g, off2, none⟩ ∧ TokAt w2 g off2 ts := by
      by_cases h : cap = 1
      · have : ts = [] := List.length_eq_zero_iff.1 (by omega)
        subst this
        exact ⟨off, by rw [if_pos h], by simp, by simp, hT2.2.2.1, by simp⟩
      · exact ⟨off + 2, by rw [if_neg h], hT2.tail⟩
    rw [he]
    have HX2 := Lib.hid hX2
    have HR2 := Lib.hid hR2
    have HT3 := Lib.hid hT3
    have HE2 := Lib.hid hE2
    have HB2 := Lib.hid hB2
    have HA := Lib.hid (show R ≠ wc.heap.size ∧ M1 ≠ wc.heap.size ∧ M2 ≠ wc.heap.size ∧ some wc.heap.size ≠ lv.ownBlock from ⟨ha1, ha2, ha3, ha4⟩)
    have hX11 : 11 < wc.heap.size := HE.out.big
    have hu0' : w2.cell? ⟨g, off, none⟩ = some (.string ⟨t0.1.toArray⟩) := by rw [hbc.cell hg]; exact hu0
    have hu1' : w2.cell? ⟨g, off + 1, none⟩ = some (.int .i64 t0.2) := by rw [hbc.cell hg]; exact hu1
    have ht0b := HT.out.2.1 t0 List.mem_cons_self
    clear he hX2 hR2 hT2 hT3 hE2 hB2 ha1 ha2 ha3 ha4 hb hbc hr0 hr3 hu0 hu1
    obtain ⟨X, hX⟩ : ∃ X, X = wc.heap.size := ⟨_, rfl⟩
    rw [← hX]
    rw [← hX] at HX2 HA hX11 hXl
    have hBX : B ≤ X := by omega
    have hwX2 : w.heap.size ≤ X := by omega
    have hgX : g < X := by omega
    clear hX
    go_cut [8] (fun v8 wd => ∃ (ts' : List Tok) (o : Int) (nm : Tok) (off' cap' : Nat), v8 = .slice (some ⟨g, off', none⟩) ts'.length cap' ∧ Hid (Mid w wd B R M1 M2 codes labels lv xs size g X c t0 ts ts' o nm off off' cap'))
    case first =>
      by_cases hw : 1 < n
      · have hwp : 0 < widthN (shapeN c) := by have := HN.out; omega
        cases ts with
        | nil =>
          have hp : insF codes size [t0] = .error (9, t0.2 + t0.1.length) := by simp only [insF, HC.out, opStage, if_pos hwp]
          have HP := Lib.hid hp
          clear hp
          go_wp2_with (first | (go_at_call 61; refine (end_any _ _ _ ht0b.2.1 (by omega) (by simp [ByteArray.size]; omega)).mono ?_; rintro e w3 ⟨rfl, hb3⟩) | (go_at_call 25; refine (fail_any _ _ _).mono ?_; rintro e w3 ⟨rfl, rfl⟩))
          exact ⟨rfl, HB2.out.then_below hb3, by rw [HP.out]; rfl⟩
        | cons t1 ts =>
          simp only [List.length_cons] at hcap hlen
          obtain ⟨hv0, hv1⟩ := HT3.out.head
          have ht1b := HT3.out.2.1 t1 List.mem_cons_self
          have hop := operand_F X c size t1 w2 ht1b.1 HE2.out HX2.out hX11 hc41
          have HO := Lib.hid hop
          clear hop
          cases hof : operF c t1 with
          | error x =>
            obtain ⟨xe, xa⟩ := x
            have hp : insF codes size (t0 :: t1 :: ts) = .error (xe, xa) := by simp only [insF, HC.out, opStage, if_pos hwp, hof]
            have HP := Lib.hid hp
            have HF := Lib.hid hof
            clear hp hof
            go_wp2_with ((go_at_call 62; refine HO.out.mono ?_; rintro e w3 ⟨hg3, he3⟩; rw [HF.out] at he3; unfold gaveUp at he3; obtain rfl := he3))
            exact ⟨rfl, HB2.out.then_grown hg3 (.inl hwX2), by rw [HP.out]; rfl⟩
          | ok x =>
            obtain ⟨o, nm⟩ := x
            have HF := Lib.hid hof
            clear hof
            by_cases hcp : cap - 1 = 1
            all_goals
              go_wp2_with ((go_at_call 62; refine HO.out.mono ?_; rintro e w3 ⟨hg3, he3⟩; rw [HF.out] at he3; obtain ⟨rfl, hX3⟩ := he3; have HX3 := Lib.hid hX3; clear hX3))
              have hR3 := HR2.out.grown hg3 HA.out.1 HA.out.2.1 HA.out.2.2.1 HA.out.2.2.2
              have hE3 : Env w3 := HE2.out.of_blocks hg3.size fun k hk => hg3.block k (by omega) (by simp; omega)
              have hB3 : FrameR w w3 R M2 lv := HB2.out.then_grown hg3 (.inl hwX2)
              have hT4 : TokAt w3 g off2 (t1 :: ts) := HT3.out.below (hg3.block g (by omega) (by simp; omega))
              have hq3 : w3.cell? ⟨g, off + 1, none⟩ = some (.int .i64 t0.2) := by rw [World.cell?_of_block (a := ⟨g, _, none⟩) (hg3.block g (by omega) (by simp; omega))]; exact hu1'
              have hos : opStage c t0 (t1 :: ts) = .ok ((o, nm), ts) := by unfold opStage; rw [if_pos hwp]; simp only [HF.out]
            · have hts : ts = [] := List.length_eq_zero_iff.1 (by omega)
              go_meet
              case rel => exact ⟨ts, o, nm, off2, 0, rfl, hos, HX3.out, hR3, by subst hts; exact ⟨by simp, by simp, hT4.2.2.1, by simp⟩, hE3, hB3, by subst hts; simp, hBX, HA.out.2.2.2, hq3⟩
            · go_meet
              case rel => exact ⟨ts, o, nm, off2 + 2, cap - 1 - 1, rfl, hos, HX3.out, hR3, hT4.tail, hE3, hB3, by omega, hBX, HA.out.2.2.2, hq3⟩
      · have hwp : ¬ 0 < widthN (shapeN c) := by have := HN.out; omega
        go_wp2
        go_meet
        case rel => exact ⟨ts, 0, ([], 0), off2, cap - 1, rfl, by unfold opStage; rw [if_neg hwp], HX2.out, HR2.out, HT3.out, HE2.out, HB2.out, by omega, hBX, HA.out.2.2.2, hu1'⟩
    case rest =>
      obtain ⟨ts', o, nm, off', cap', rfl, HM⟩ := hcut
      obtain ⟨wd, rfl⟩ : ∃ wd : World, wd = wc := ⟨_, rfl⟩
      obtain ⟨hos, hX, hR, hT, hE, hbw, hcap', hBX, hrow, hq1⟩ := HM.out
      have HOS := Lib.hid hos
      have HX := Lib.hid hX
      have HR := Lib.hid hR
      have HT := Lib.hid hT
      have HE := Lib.hid hE
      have HB := Lib.hid hbw
      have HW := Lib.hid hrow
      have hr2 := box_cell hR.cells 2
      have hr3 := box_cell hR.cells 3
      have f2 := box_free hR.cells 2
      have f3 := box_free hR.cells 3
      simp only [List.getElem?_toArray, List.getElem?_cons_zero, List.getElem?_cons_succ] at hr2 hr3
      have hRl' := heap_lt hR.cells
      have htl := hT.1
      have hg' := hT.2.2.1
      clear HM hos hX hR hT hE hbw hrow
      cases ts' with
      | cons t2 ts2 =>
        have hp : insF codes size (t0 :: ts) = .error (9, t2.2) := by simp only [insF, HC.out, HOS.out]
        have HP := Lib.hid hp
        obtain ⟨hv0, hv1⟩ := HT.out.head
        clear hp hr2 hr3 f2 f3
        go_wp2_with ((go_at_call 25; refine (fail_any _ _ _).mono ?_; rintro e w3 ⟨rfl, rfl⟩))
        exact ⟨rfl, HB.out, by rw [HP.out]; rfl⟩
      | nil =>
        have hp : insF codes size (t0 :: ts) = if 512 < size + (1 + widthN (shapeN c)) then .error (2, t0.2) else .ok ⟨c, o, size, nm.1, nm.2⟩ := by simp only [insF, HC.out, HOS.out]
        have HP := Lib.hid hp
        clear hp
        by_cases hfull : 512 < size + n
        · clear hr2 f2 f3
          go_wp2_with ((go_at_call 25; refine (fail_any _ _ _).mono ?_; rintro e w3 ⟨rfl, rfl⟩))
          exact ⟨rfl, HB.out, by rw [HP.out, if_pos (by rw [HN.out]; exact hfull)]; rfl⟩
        · clear hq1
          have hne : R ≠ X := HA.out.1
          go_upto_region 16 with (fail)
          have hX4 : InsAt (wd.setCell ⟨R, 3, none⟩ (.int .i64 (↑size + ↑n))) X c o size ⟨nm.1.toArray⟩ nm.2 := by
            have := HX.out
            unfold InsAt at this ⊢
            rw [Below.heap_setCell _ _ _ _ (by simp; omega)]; exact this
          have hR4 := set_heap HR.out.cells 3 (.int .i64 (↑size + ↑n))
          have hO4 : (wd.setCell ⟨R, 3, none⟩ (.int .i64 (↑size + ↑n))).ownsRow B 70 5 lv xs.length (cellsR xs) := by
            obtain ⟨r1, r2⟩ := HR.out.row
            refine ⟨r1, ?_⟩
            rcases r2 with r2 | ⟨gg, capr, cur, rfl, r3, r4, r5⟩
            · exact .inl r2
            · refine .inr ⟨gg, capr, cur, rfl, r3, ?_, r5⟩
              rw [Below.heap_setCell _ _ _ _ (fun h => by simp only at h; subst h; rw [HR.out.cells] at r4; cases r4)]
              exact r4
          have hg4 : wd.grownBy (wd.setCell ⟨R, 3, none⟩ (.int .i64 (↑size + ↑n))) (some R) := grown_cellset (grown_plain (Below.refl _ _)) 3 _
          generalize hW4 : wd.setCell ⟨R, 3, none⟩ (.int .i64 (↑size + ↑n)) = W4 at *
          obtain ⟨i0, hi, hz0, hz1, hz2⟩ := info_parts infoIns
          have q2 := box_cell hR4 2
          have fq := box_free hR4 2
          have y0 := box_cell hX4 0
          have y1 := box_cell hX4 1
          have y2 := box_cell hX4 2
          have y3 := box_cell hX4 3
          have y4 := box_cell hX4 4
          simp at q2 y0 y1 y2 y3 y4
          have hRq := heap_lt hR4
          have hXq := heap_lt hX4
          have hnR : some R ≠ lv.ownBlock := own_ne_box hO4 hR4 (by decide)
          have hnX := HW.out
          have hBq : B ≤ W4.heap.size := by have := HR.out.bR; omega
          have hfew := HR.out.few
          have HG4 := Lib.hid hg4
          have HR4 := Lib.hid hR4
          clear hg4 hR4 hW4 hX4 hr2 hr3 f2 f3
          go_region_law
            ((refine step_append_lies _ (by rfl) _ _ _ (by rfl) B 70 i0 _ 5 48 Tryd.underlying60 hi hz0 hz1 hz2 rfl (by omega) lv xs.length (cellsR xs) (by rfl) ((hO4.alloc _).drew) ⟨W4.heap.size, 0, none⟩ 1 1 [.int .i64 c, .int .i64 o, .int .i64 size, .string ⟨nm.1.toArray⟩, .int .i64 nm.2] (by rfl) (by rfl) (World.news_of_block (cs := #[.int .i64 c, .int .i64 o, .int .i64 size, .string ⟨nm.1.toArray⟩, .int .i64 nm.2]) (t := 70) (fr := (0, 0)) (heap_new W4 _)) (by simp [Value.oneCell']) (by omega) (by unfold maxLen; omega) (by omega) (by simp; omega) (W4.heap.size + 1) (by simp) ?_; intro gg capr w1 hown1 hgrow hat hlt; have hR5 := (hgrow.block R (by simp; omega) hnR).trans (heap_old _ HR4.out); have fz := box_free hR5 2; have cz : w1.cell? ⟨R, 2, none⟩ = some lv := (by rw [box_cell hR5 2]; rfl); have HR5 := Lib.hid hR5; clear hR5))
          all_goals
            go_wp2
            go_end0
            have hfin := set_heap HR5.out 2 (.slice (some ⟨gg, 0, none⟩) (xs.length + 1) capr)
            have hkeep : ∀ k, k < wd.heap.size → k ≠ R → some k ≠ lv.ownBlock → (w1.setCell ⟨R, 2, none⟩ (.slice (some ⟨gg, 0, none⟩) (xs.length + 1) capr)).heap[k]? = wd.heap[k]? := fun k hk h1 h2 => by
              have h4 : W4.heap[k]? = wd.heap[k]? := HG4.out.block k hk (by simpa using h1)
              have hk4 : k < W4.heap.size := Nat.lt_of_lt_of_le hk HG4.out.size
              rw [Below.heap_setCell _ _ _ _ h1, hgrow.block k (by simp; omega) h2]
              exact (Below.heap_alloc _ _ _ hk4).trans h4
            refine ⟨?_, ?_⟩
            · exact ⟨(hgrow.os.trans HG4.out.os).trans HB.out.os, (hgrow.tape.trans HG4.out.tape).trans HB.out.tape, (hgrow.output.trans HG4.out.output).trans HB.out.output, by have h1 := hgrow.size; have h2 := HG4.out.size; have h3 := HB.out.size; simp [World.setCell] at h1 ⊢; omega, fun k hk k1 k2 k3 => by
                rw [hkeep k (Nat.lt_of_lt_of_le hk HB.out.size) k1 k3]
                exact HB.out.block k hk k1 k2 k3⟩
            · rw [HP.out, if_neg (by rw [HN.out]; exact hfull)]
              refine ⟨rfl, .slice (some ⟨gg, 0, none⟩) (xs.length + 1) capr, ⟨HR.out.b11, HR.out.bR, HR.out.bM1, HR.out.bM2, HR.out.ne, ?_, ?_, ?_, ?_, ?_⟩⟩
              · rw [hfin, HN.out]; rfl
              · obtain ⟨cl, c1, c2⟩ := HR.out.cmap
                exact ⟨cl, c1.of_block strK (hkeep _ (c1.lt strK) (c1.ne_row strK HR.out.cells) (own_ne_map strK HR.out.row c1)), c2⟩
              · exact HR.out.lmap.of_block strK (hkeep _ (HR.out.lmap.lt strK) (HR.out.lmap.ne_row strK HR.out.cells) (own_ne_map strK HR.out.row HR.out.lmap))
              · rw [List.length_append, cellsR_snoc]
                exact own_setCell hown1 (own_ne_box hown1 HR5.out (by decide)) _
              · rw [List.length_append, List.length_singleton, HN.out]; omega
/-- (*reader).instruction. -/
theorem ins_any (B R M1 M2 : Nat) (codes : List UInt8 → Option Nat) (labels : List (ByteArray × Value)) (lv : Value) (xs : List InsR) (size g off cap : Nat) (t0 : Tok) (ts : List Tok) (w : World)
    (hR : RdAt w B R M1 M2 codes labels lv xs size) (hE : Env w) (hB : B ≤ w.heap.size) (hT : TokAt w g off (t0 :: ts)) (hcap : ts.length + 1 ≤ cap) :
    Calls Tryd.prog 43 #[.pointer (some ⟨R, 0, none⟩), .slice (some ⟨g, off, none⟩) (ts.length + 1) cap] w (InsPost lv w B R M1 M2 codes labels xs size (t0 :: ts)) := by
  cases hc : codes t0.1 with
  | none => exact ins_word B R M1 M2 codes labels lv xs size g off cap t0 ts w hR hT hc
  | some c => exact ins_known B R M1 M2 codes labels lv xs size g off cap c t0 ts w hR hE hB hT hc hcap
end Go.Proofs.YtbigllcononkbaaDoor
