/- Plain law: what is read is a program that may be: every operand fits, and there is room for all. -/
import Derived.Test.YtbigllcononkbaaDoorL7
namespace Go.Proofs.YtbigllcononkbaaDoor
open Go

def readX (x : InsR) : Prop := x.c < 41 ∧ (-9223372036854775808 ≤ x.o ∧ x.o ≤ 9223372036854775807) ∧ x.p ≤ 512 ∧ (x.nm = [] → fitsB (shapeN x.c) x.o = true) ∧ (x.nm ≠ [] → leadsB x.c = true)
def lenR (xs : List InsR) : Nat := (xs.map fun x => 1 + widthN (shapeN x.c)).sum
def readS (s : PSt) : Prop := (∀ p ∈ s.ls, p.2 ≤ 512) ∧ (∀ x ∈ s.xs, readX x) ∧ s.size = lenR s.xs ∧ s.size ≤ 512
theorem shape_bare : ∀ c, c < 41 → widthN (shapeN c) = 0 → shapeN c = 0 := by decide +kernel
theorem nameB_ne {l : List UInt8} (h : nameB l = true) : l ≠ [] := fun e => by subst e; cases h
theorem opStage_read {c : Nat} (hc : c < 41) {t0 : Tok} {ts rest : List Tok} {x : Int × Tok} (h : opStage c t0 ts = .ok (x, rest)) :
    (-9223372036854775808 ≤ x.1 ∧ x.1 ≤ 9223372036854775807) ∧ (x.2.1 = [] → fitsB (shapeN c) x.1 = true) ∧ (x.2.1 ≠ [] → leadsB c = true) := by
  unfold opStage at h
  split at h
  · cases ts with
    | nil => cases h
    | cons t1 ts =>
      simp only at h
      cases ho : operF c t1 with
      | error e => rw [ho] at h; cases h
      | ok y =>
        rw [ho] at h
        cases h
        have h64 := operF_in64 ho
        refine ⟨h64, ?_⟩
        unfold operF at ho
        split at ho
        · split at ho
          · rename_i hf
            cases ho
            exact ⟨fun _ => hf, fun h => absurd rfl h⟩
          · cases ho
        · split at ho
          · rename_i hl
            simp only [Bool.and_eq_true] at hl
            cases ho
            exact ⟨fun h => absurd h (nameB_ne hl.2), fun _ => hl.1⟩
          · cases ho
  · rename_i hw
    cases h
    refine ⟨by decide, fun _ => ?_, fun h => absurd rfl h⟩
    rw [shape_bare c hc (by omega)]
    decide
theorem insF_read {codes : List UInt8 → Option Nat} (hc : ∀ s c, codes s = some c → c < 41) {size : Nat} (hs : size ≤ 512) {ts : List Tok} {i : InsR} (h : insF codes size ts = .ok i) : readX i ∧ size + (1 + widthN (shapeN i.c)) ≤ 512 := by
  cases ts with
  | nil => cases h
  | cons t0 rest =>
    simp only [insF] at h
    cases hcd : codes t0.1 with
    | none => rw [hcd] at h; cases h
    | some c =>
      rw [hcd] at h
      simp only at h
      cases ho : opStage c t0 rest with
      | error e => rw [ho] at h; cases h
      | ok y =>
        obtain ⟨x, r⟩ := y
        rw [ho] at h
        cases r with
        | cons t r => cases h
        | nil =>
          simp only at h
          split at h
          · cases h
          · cases h
            have hc41 := hc _ _ hcd
            obtain ⟨h1, h2, h3⟩ := opStage_read hc41 ho
            exact ⟨⟨hc41, h1, hs, h2, h3⟩, by simp only; omega⟩
def stepS (s : PSt) (ls' : Labs) (r : Option InsR) : PSt := match r with | none => ⟨ls', s.xs, s.size⟩ | some i => ⟨ls', s.xs ++ [i], s.size + (1 + widthN (shapeN i.c))⟩
theorem lineF_read {codes : List UInt8 → Option Nat} (hc : ∀ s c, codes s = some c → c < 41) {s : PSt} (hs : readS s) {ts : List Tok} {ls' : Labs} {r : Option InsR} (h : lineF codes s.ls s.size ts = .ok (ls', r)) :
    readS (stepS s ls' r) := by
  have hls := (lineF_good hc hs.2.2.2 h hs.1).1
  cases ts with
  | nil => simp only [lineF] at h; cases h; exact ⟨hls, hs.2⟩
  | cons t0 rest =>
    simp only [lineF] at h
    cases hl : labStage s.ls s.size t0 rest with
    | error e => rw [hl] at h; cases h
    | ok y =>
      obtain ⟨l2, t2⟩ := y
      rw [hl] at h
      cases t2 with
      | nil => simp only at h; cases h; exact ⟨hls, hs.2⟩
      | cons t t2 =>
        simp only at h
        cases hi : insF codes s.size (t :: t2) with
        | error e => rw [hi] at h; cases h
        | ok i =>
          rw [hi] at h
          cases h
          obtain ⟨h1, h2⟩ := insF_read hc hs.2.2.2 hi
          refine ⟨hls, ?_, ?_, h2⟩
          · intro y hy
            rcases List.mem_append.1 hy with hy | hy
            · exact hs.2.1 y hy
            · simp at hy; subst hy; exact h1
          · simp only [stepS, lenR, List.map_append, List.sum_append, List.map_cons, List.map_nil, List.sum_cons, List.sum_nil]
            have := hs.2.2.1
            unfold lenR at this
            omega
theorem runL_read {codes : List UInt8 → Option Nat} (hc : ∀ s c, codes s = some c → c < 41) : ∀ (ls : List (List UInt8)) (a : Nat) (s s' : PSt), readS s → runL codes ls a s = .ok s' → readS s'
  | [], _, s, s', h, hr => by simp only [runL] at hr; cases hr; exact h
  | l :: rest, a, s, s', h, hr => by
    simp only [runL] at hr
    cases hl : lineF codes s.ls s.size (toksAt a l) with
    | error e => rw [hl] at hr; cases hr
    | ok y =>
      obtain ⟨ls', r⟩ := y
      have hg := lineF_read hc h hl
      rw [hl] at hr
      cases r with
      | none => exact runL_read hc rest _ _ _ hg hr
      | some i => exact runL_read hc rest _ _ _ hg hr
theorem leads_shape : ∀ c, c < 41 → leadsB c = true → (shapeN c = 2 ∧ c ≠ 26) ∨ (shapeN c = 6 ∧ c = 26) := by decide +kernel
theorem resolve1_read {ls : Labs} (hl : ∀ p ∈ ls, p.2 ≤ 512) {x : InsR} (hx : readX x) {i : Ins} (h : resolve1 ls x = .ok i) : i.c = x.c ∧ i.ok ∧ i.in64 := by
  obtain ⟨h1, h2, h3, h4, h5⟩ := hx
  unfold resolve1 at h
  split at h
  · rename_i hn
    cases h
    exact ⟨rfl, ⟨h1, h4 hn⟩, h2⟩
  · rename_i hn
    cases hk : lookN ls x.nm with
    | none => rw [hk] at h; cases h
    | some n =>
      have hn512 := lookN_le hl hk
      rw [hk] at h
      cases h
      have hs := leads_shape x.c h1 (h5 hn)
      refine ⟨rfl, ⟨h1, ?_⟩, ?_⟩
      · simp only
        rcases hs with ⟨hs, hc⟩ | ⟨hs, hc⟩
        · rw [hs, if_neg hc]
          simp [fitsB]
          omega
        · rw [hs, if_pos hc]
          simp [fitsB]
          omega
      · simp only [Ins.in64]
        split <;> omega
theorem resolveL_read {ls : Labs} (hl : ∀ p ∈ ls, p.2 ≤ 512) : ∀ (xs : List InsR) (acc is : List Ins), (∀ x ∈ xs, readX x) → (∀ i ∈ acc, i.ok ∧ i.in64) → resolveL ls xs acc = .ok is → (∀ i ∈ is, i.ok ∧ i.in64) ∧ (encAll is).length = (encAll acc).length + lenR xs
  | [], acc, is, _, ha, h => by simp only [resolveL] at h; cases h; exact ⟨ha, by simp [lenR]⟩
  | x :: xs, acc, is, hx, ha, h => by
    simp only [resolveL] at h
    cases hr : resolve1 ls x with
    | error e => rw [hr] at h; cases h
    | ok i =>
      rw [hr] at h
      obtain ⟨e1, e2, e3⟩ := resolve1_read hl (hx x List.mem_cons_self) hr
      obtain ⟨h1, h2⟩ := resolveL_read hl xs (acc ++ [i]) is (fun y hy => hx y (List.mem_cons_of_mem _ hy)) (fun y hy => by
        rcases List.mem_append.1 hy with hy | hy
        · exact ha y hy
        · simp at hy; subst hy; exact ⟨e2, e3⟩) h
      refine ⟨h1, ?_⟩
      have e : encAll (acc ++ [i]) = encAll acc ++ i.enc := by simp [encAll]
      rw [e, List.length_append, enc_length] at h2
      simp only [lenR, List.map_cons, List.sum_cons] at h2 ⊢
      rw [h2]
      simp only [Ins.len, Ins.w, e1]
      omega
/-- What Parse reads is a program. -/
theorem parse_read {t s : List UInt8} (h : parseF t = .ok s) : ∃ xs, s = encAll xs ∧ (∀ x ∈ xs, x.ok ∧ x.in64) ∧ s.length ≤ 512 := by
  unfold parseF at h
  cases hr : runL codeOf (splitL t) 0 ⟨[], [], 0⟩ with
  | error e => rw [hr] at h; cases h
  | ok st =>
    rw [hr] at h
    simp only at h
    have hcd : ∀ s c, codeOf s = some c → c < 41 := fun s c h => by
      have := (List.findIdx?_eq_some_iff_findIdx_eq.1 h).1
      have e : wordsL.length = 41 := by decide
      omega
    have hs := runL_read hcd _ _ _ _ ⟨by simp, by simp, rfl, by simp⟩ hr
    cases hl : resolveL st.ls st.xs [] with
    | error e => rw [hl] at h; cases h
    | ok is =>
      rw [hl] at h
      cases h
      obtain ⟨h1, h2⟩ := resolveL_read hs.1 _ _ _ hs.2.1 (by simp) hl
      have h3 : (encAll is).length ≤ 512 := by
        have := hs.2.2
        rw [h2]
        simp [encAll]
        omega
      have he : encOut is = encAll is := by
        have key : ∀ (xs : List Ins) (acc : List UInt8), (∀ x ∈ xs, x.ok) → (acc ++ encAll xs).length ≤ 512 → encOut.encR' xs acc = some (acc ++ encAll xs) := by
          intro xs
          induction xs with
          | nil => intro acc _ _; simp [encOut.encR', encAll]
          | cons x xs ih =>
            intro acc hx hl
            have e : encAll (x :: xs) = x.enc ++ encAll xs := rfl
            rw [e, ← List.append_assoc] at hl ⊢
            rw [encOut.encR', if_pos (hx x List.mem_cons_self).2, if_neg (by rw [List.length_append] at hl; omega), ih _ (fun y hy => hx y (List.mem_cons_of_mem _ hy)) hl]
        rw [encOut, key is [] (fun x hx => (h1 x hx).1) (by simpa using h3)]
        rfl
      rw [he]
      exact ⟨is, rfl, h1, h3⟩
end Go.Proofs.YtbigllcononkbaaDoor
