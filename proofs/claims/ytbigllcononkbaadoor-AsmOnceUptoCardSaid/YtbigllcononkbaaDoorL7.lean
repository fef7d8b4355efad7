/- Plain law: what lines come to is within bounds. -/
import Derived.Test.YtbigllcononkbaaDoorL6
namespace Go.Proofs.YtbigllcononkbaaDoor
open Go

def goodX (x : InsR) : Prop := x.c < 41 ∧ (-9223372036854775808 ≤ x.o ∧ x.o ≤ 9223372036854775807) ∧ x.p ≤ 512
def goodS (s : PSt) : Prop := (∀ p ∈ s.ls, p.2 ≤ 512) ∧ ∀ x ∈ s.xs, goodX x
theorem operF_in64 {c : Nat} {t : Tok} {x : Int × Tok} (h : operF c t = .ok x) : -9223372036854775808 ≤ x.1 ∧ x.1 ≤ 9223372036854775807 := by
  unfold operF at h
  split at h
  · rename_i n hn
    split at h
    · cases h; exact numB_in64 _ _ hn
    · cases h
  · split at h
    · cases h; simp
    · cases h
theorem insF_good {codes : List UInt8 → Option Nat} (hc : ∀ s c, codes s = some c → c < 41) {size : Nat} (hs : size ≤ 512) {ts : List Tok} {i : InsR} (h : insF codes size ts = .ok i) : goodX i := by
  cases ts with
  | nil => cases h
  | cons t0 rest =>
    simp only [insF] at h
    split at h
    · cases h
    · rename_i c hcc
      split at h
      · cases h
      · cases h
      · rename_i x hx
        split at h
        · cases h
        · cases h
          refine ⟨hc _ _ hcc, ?_, hs⟩
          unfold opStage at hx
          split at hx
          · split at hx
            · cases hx
            · split at hx
              · rename_i y hy
                cases hx
                exact operF_in64 hy
              · cases hx
          · cases hx; simp
theorem labStage_good {ls ls' : Labs} {size : Nat} (hs : size ≤ 512) {t0 : Tok} {r r' : List Tok} (h : labStage ls size t0 r = .ok (ls', r')) (hl : ∀ p ∈ ls, p.2 ≤ 512) : ∀ p ∈ ls', p.2 ≤ 512 := by
  unfold labStage at h
  split at h
  · split at h
    · split at h
      · cases h
      · cases h
        intro p hp
        rcases List.mem_append.1 hp with hp | hp
        · exact hl p hp
        · simp at hp; subst hp; exact hs
    · cases h
  · cases h; exact hl
theorem lineF_good {codes : List UInt8 → Option Nat} (hc : ∀ s c, codes s = some c → c < 41) {ls ls' : Labs} {size : Nat} (hs : size ≤ 512) {ts : List Tok} {r : Option InsR} (h : lineF codes ls size ts = .ok (ls', r)) (hl : ∀ p ∈ ls, p.2 ≤ 512) : (∀ p ∈ ls', p.2 ≤ 512) ∧ ∀ i, r = some i → goodX i := by
  cases ts with
  | nil => cases h; exact ⟨hl, by simp⟩
  | cons t0 rest =>
    simp only [lineF] at h
    split at h
    · cases h
    · rename_i l' hx
      cases h
      exact ⟨labStage_good hs hx hl, by simp⟩
    · rename_i l' t ts hx
      split at h
      · cases h
      · rename_i i hi
        cases h
        exact ⟨labStage_good hs hx hl, by intro j hj; cases hj; exact insF_good hc hs hi⟩
theorem lookN_le {ls : Labs} (hl : ∀ p ∈ ls, p.2 ≤ 512) {k : List UInt8} {n : Nat} (h : lookN ls k = some n) : n ≤ 512 := by
  simp only [lookN, Option.map_eq_some_iff] at h
  obtain ⟨p, hp, rfl⟩ := h
  exact hl p (List.mem_of_find?_eq_some hp)
theorem resolve1_good {ls : Labs} (hl : ∀ p ∈ ls, p.2 ≤ 512) {x : InsR} (hx : goodX x) {i : Ins} (h : resolve1 ls x = .ok i) : i.c < 41 ∧ i.in64 := by
  obtain ⟨h1, h2, h3⟩ := hx
  unfold resolve1 at h
  split at h
  · cases h; exact ⟨h1, h2⟩
  · split at h
    · cases h
    · rename_i n hn
      have := lookN_le hl hn
      cases h
      refine ⟨h1, ?_⟩
      simp only [Ins.in64]
      split <;> omega
theorem resolveL_snoc (ls : Labs) : ∀ (xs : List InsR) (acc : List Ins) (l : List Ins), resolveL ls xs acc = .ok l → ∃ m, l = acc ++ m ∧ m.length = xs.length
  | [], acc, l, h => by cases h; exact ⟨[], by simp, rfl⟩
  | x :: xs, acc, l, h => by
    simp only [resolveL] at h
    split at h
    · cases h
    · obtain ⟨m, h1, h2⟩ := resolveL_snoc ls xs _ _ h
      exact ⟨_ :: m, by rw [h1, List.append_assoc]; rfl, by simp [h2]⟩
end Go.Proofs.YtbigllcononkbaaDoor
