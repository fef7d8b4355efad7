/- Plain laws of instructions as bytes: what is read at a place, what bytes an instruction has, and that the one undoes the other. No program here. -/
namespace Go.Proofs.YtbigllcononkbaaDoor

def shapeTab : List Nat := [0, 1, 2, 3, 0, 0, 0, 0, 0, 0, 0, 0, 0, 0, 0, 0, 0, 0, 0, 0, 0, 0, 0, 4, 2, 2, 6, 0, 5, 0, 0, 0, 0, 5, 5, 5, 5, 5, 5, 5, 5]
def shapeN (c : Nat) : Nat := shapeTab.getD c 0
def widthN (a : Nat) : Nat := if a = 1 ∨ a = 4 ∨ a = 5 then 1 else if a = 2 ∨ a = 6 then 2 else if a = 3 then 8 else 0
def fitsB (a : Nat) (n : Int) : Bool :=
  if a = 1 then decide (-128 ≤ n ∧ n ≤ 127) else if a = 2 then decide (-32768 ≤ n ∧ n ≤ 32767) else if a = 3 then true
  else if a = 4 then decide (0 ≤ n ∧ n < 6) else if a = 5 then decide (0 ≤ n ∧ n ≤ 255) else if a = 6 then decide (0 ≤ n ∧ n ≤ 65535) else decide (n = 0)
/-- The number that bits of a shape are. -/
def valueN (a : Nat) (n : Nat) : Int :=
  if a = 1 then (if n % 256 < 128 then (n % 256 : Nat) else ((n % 256 : Nat) : Int) - 256)
  else if a = 2 then (if n % 65536 < 32768 then (n % 65536 : Nat) else ((n % 65536 : Nat) : Int) - 65536)
  else if n % 18446744073709551616 < 9223372036854775808 then (n % 18446744073709551616 : Nat) else ((n % 18446744073709551616 : Nat) : Int) - 18446744073709551616
/-- The number of bytes, the lowest first. -/
def leN : List UInt8 → Nat
  | [] => 0
  | b :: t => b.toNat + 256 * leN t
/-- So many bytes of a number, the lowest first. -/
def leB : Nat → Int → List UInt8
  | 0, _ => []
  | k + 1, o => UInt8.ofNat (o % 256).toNat :: leB k (o / 256)

/-- An instruction. -/
structure Ins where
  c : Nat
  o : Int
def Ins.w (x : Ins) : Nat := widthN (shapeN x.c)
def Ins.len (x : Ins) : Nat := 1 + x.w
def Ins.ok (x : Ins) : Prop := x.c < 41 ∧ fitsB (shapeN x.c) x.o = true
def Ins.in64 (x : Ins) : Prop := -9223372036854775808 ≤ x.o ∧ x.o ≤ 9223372036854775807
def Ins.enc (x : Ins) : List UInt8 := UInt8.ofNat x.c :: leB x.w x.o
def encAll (xs : List Ins) : List UInt8 := xs.flatMap Ins.enc

/-- What stands at the head of a row of bytes. -/
def atF : List UInt8 → Option Ins
  | [] => none
  | b :: t =>
    if b.toNat < 41 then
      if t.length < widthN (shapeN b.toNat) then none
      else
        let o := valueN (shapeN b.toNat) (leN (t.take (widthN (shapeN b.toNat))))
        if fitsB (shapeN b.toNat) o = true then some ⟨b.toNat, o⟩ else none
    else none

theorem leB_length : ∀ k o, (leB k o).length = k
  | 0, _ => rfl
  | k + 1, o => by simp [leB, leB_length k]
theorem enc_length (x : Ins) : x.enc.length = x.len := by simp [Ins.enc, Ins.len, leB_length, Nat.add_comm]
theorem len_pos (x : Ins) : 0 < x.len := by unfold Ins.len; omega

theorem leN_lt : ∀ l : List UInt8, leN l < 256 ^ l.length
  | [] => by simp [leN]
  | b :: t => by
    have := leN_lt t
    have hb := b.toNat_lt
    simp only [leN, List.length_cons, Nat.pow_succ]
    omega

theorem emod_256_mul (o m : Int) (hm : 0 < m) : o % (256 * m) = o % 256 + 256 * ((o / 256) % m) := by
  have e1 := Int.mul_ediv_add_emod o 256
  have e2 := Int.mul_ediv_add_emod (o / 256) m
  have r0 : 0 ≤ o % 256 := Int.emod_nonneg _ (by omega)
  have r1 : o % 256 < 256 := Int.emod_lt_of_pos _ (by omega)
  have s0 : 0 ≤ (o / 256) % m := Int.emod_nonneg _ (by omega)
  have s1 : (o / 256) % m < m := Int.emod_lt_of_pos _ hm
  generalize o % 256 = s at *
  generalize (o / 256) % m = r at *
  generalize (o / 256) / m = q at *
  have h : o = (s + 256 * r) + (256 * m) * q := by
    rw [Int.mul_assoc]
    omega
  rw [h, Int.add_mul_emod_self_left, Int.emod_eq_of_lt (by omega) (by omega)]

theorem leN_leB : ∀ (k : Nat) (o : Int), (leN (leB k o) : Int) = o % (256 ^ k : Nat)
  | 0, o => by simp [leB, leN, Int.emod_one]
  | k + 1, o => by
    have ih := leN_leB k (o / 256)
    simp only [leB, leN]
    have h0 : 0 ≤ o % 256 := Int.emod_nonneg _ (by omega)
    have h1 : o % 256 < 256 := Int.emod_lt_of_pos _ (by omega)
    have hb : ((UInt8.ofNat (o % 256).toNat).toNat : Int) = o % 256 := by
      rw [UInt8.toNat_ofNat_of_lt' (by simp only [UInt8.size]; omega)]
      omega
    have hp : 0 < 256 ^ k := Nat.pow_pos (by omega)
    have e := emod_256_mul o ((256 ^ k : Nat) : Int) (by omega)
    have e2 : ((256 ^ (k + 1) : Nat) : Int) = 256 * ((256 ^ k : Nat) : Int) := by rw [Nat.pow_succ, Nat.mul_comm]; rfl
    rw [e2, e, ← ih]
    omega

theorem leB_leN : ∀ l : List UInt8, leB l.length (leN l : Int) = l
  | [] => rfl
  | b :: t => by
    have hb := b.toNat_lt
    have ih := leB_leN t
    simp only [List.length_cons, leB, leN]
    have e1 : (((b.toNat + 256 * leN t : Nat) : Int) % 256).toNat = b.toNat := by omega
    have e2 : ((b.toNat + 256 * leN t : Nat) : Int) / 256 = (leN t : Int) := by omega
    rw [e1, e2, ih]
    simp
/-- Bytes hang on the number's lowest bits alone. -/
theorem leB_mod : ∀ (k : Nat) (o p : Int), o % (256 ^ k : Nat) = p % (256 ^ k : Nat) → leB k o = leB k p
  | 0, _, _, _ => rfl
  | k + 1, o, p, h => by
    have hp : 0 < 256 ^ k := Nat.pow_pos (by omega)
    have e2 : ((256 ^ (k + 1) : Nat) : Int) = 256 * ((256 ^ k : Nat) : Int) := by rw [Nat.pow_succ, Nat.mul_comm]; rfl
    rw [e2, emod_256_mul o _ (by omega), emod_256_mul p _ (by omega)] at h
    have r0 : 0 ≤ o % 256 := Int.emod_nonneg _ (by omega)
    have r1 : o % 256 < 256 := Int.emod_lt_of_pos _ (by omega)
    have r2 : 0 ≤ p % 256 := Int.emod_nonneg _ (by omega)
    have r3 : p % 256 < 256 := Int.emod_lt_of_pos _ (by omega)
    have h1 : o % 256 = p % 256 := by omega
    have h2 : (o / 256) % (256 ^ k : Nat) = (p / 256) % (256 ^ k : Nat) := by omega
    simp only [leB, h1, leB_mod k _ _ h2]

theorem shapeN_le (c : Nat) : shapeN c ≤ 6 := by
  unfold shapeN
  by_cases h : c < 41
  · have : ∀ c, c < 41 → shapeTab.getD c 0 ≤ 6 := by decide
    exact this c h
  · simp [List.getD, List.getElem?_eq_none (show shapeTab.length ≤ c by simp [shapeTab]; omega)]

theorem widthN_cases (a : Nat) : widthN a = 0 ∨ widthN a = 1 ∨ widthN a = 2 ∨ widthN a = 8 := by
  unfold widthN; repeat' split
  all_goals simp

/-- An operand that fits is what its own bytes say. -/
theorem value_of_fits (a : Nat) (ha : a ≤ 6) (o : Int) (h64 : -9223372036854775808 ≤ o ∧ o ≤ 9223372036854775807) (h : fitsB a o = true) : valueN a (leN (leB (widthN a) o)) = o := by
  have e := leN_leB (widthN a) o
  obtain rfl | rfl | rfl | rfl | rfl | rfl | rfl : a = 0 ∨ a = 1 ∨ a = 2 ∨ a = 3 ∨ a = 4 ∨ a = 5 ∨ a = 6 := by omega
  all_goals
    simp [widthN] at e
    simp [fitsB] at h
    generalize hq : leN (leB (widthN _) o) = q
    simp only [widthN] at hq
    simp at hq
    rw [hq] at e
    simp [valueN]
    omega
theorem fits_mod (a : Nat) (ha : a ≤ 6) (l : List UInt8) (hl : l.length = widthN a) (h : fitsB a (valueN a (leN l)) = true) : leB (widthN a) (valueN a (leN l)) = l := by
  have hlt := leN_lt l
  have hk := leB_leN l
  rw [hl] at hk hlt
  rw [← hk]
  refine leB_mod _ _ _ ?_
  rw [hk]
  obtain rfl | rfl | rfl | rfl | rfl | rfl | rfl : a = 0 ∨ a = 1 ∨ a = 2 ∨ a = 3 ∨ a = 4 ∨ a = 5 ∨ a = 6 := by omega
  all_goals (try simp [widthN] at hlt ⊢)
  all_goals (try simp [valueN])
  all_goals (try split)
  all_goals omega

/-- What an instruction's own bytes say, whatever stands behind them. -/
theorem atF_enc (x : Ins) (h : x.ok) (h64 : x.in64) (r : List UInt8) : atF (x.enc ++ r) = some x := by
  obtain ⟨c, o⟩ := x
  obtain ⟨h1, h2⟩ := h
  simp only [Ins.in64] at h64
  simp only at h1 h2
  have hc : (UInt8.ofNat c).toNat = c := UInt8.toNat_ofNat_of_lt' (by simp only [UInt8.size]; omega)
  simp only [Ins.enc, List.cons_append, atF, hc, if_pos h1, Ins.w]
  rw [if_neg (by simp [leB_length])]
  have ht : (leB (widthN (shapeN c)) o ++ r).take (widthN (shapeN c)) = leB (widthN (shapeN c)) o := by
    rw [List.take_append_of_le_length (by simp [leB_length]), List.take_of_length_le (by simp [leB_length])]
  rw [ht, value_of_fits _ (shapeN_le c) o h64 h2, if_pos h2]
/-- What is read has just these bytes. -/
theorem enc_of_atF (l : List UInt8) (x : Ins) (h : atF l = some x) : x.ok ∧ x.len ≤ l.length ∧ l = x.enc ++ l.drop x.len := by
  cases l with
  | nil => simp [atF] at h
  | cons b t =>
    simp only [atF] at h
    split at h
    · rename_i hb
      split at h
      · simp at h
      · rename_i hl
        split at h
        · rename_i hf
          simp only [Option.some.injEq] at h
          subst h
          have hlen : (t.take (widthN (shapeN b.toNat))).length = widthN (shapeN b.toNat) := by simp; omega
          refine ⟨⟨hb, hf⟩, by simp [Ins.len, Ins.w]; omega, ?_⟩
          simp only [Ins.enc, Ins.w, Ins.len]
          rw [fits_mod _ (shapeN_le _) _ hlen hf, Nat.add_comm 1, List.drop_succ_cons, List.cons_append, List.take_append_drop]
          simp
        · simp at h
    · simp at h
theorem valueN_in64 (a n : Nat) : -9223372036854775808 ≤ valueN a n ∧ valueN a n ≤ 9223372036854775807 := by
  unfold valueN
  split
  · split <;> omega
  · split
    · split <;> omega
    · split <;> omega
theorem atF_in64 (l : List UInt8) (x : Ins) (h : atF l = some x) : x.in64 := by
  cases l with
  | nil => simp [atF] at h
  | cons b t =>
    simp only [atF] at h
    split at h
    · split at h
      · simp at h
      · split at h
        · simp only [Option.some.injEq] at h
          subst h
          exact valueN_in64 _ _
        · simp at h
    · simp at h

/-- All instructions of a row of bytes, one behind the other; nothing: somewhere none stands. -/
def decG : Nat → List UInt8 → Option (List Ins)
  | 0, _ => none
  | _ + 1, [] => some []
  | k + 1, b :: t => (atF (b :: t)).bind fun x => (decG k ((b :: t).drop x.len)).map (x :: ·)
def decF (l : List UInt8) : Option (List Ins) := decG (l.length + 1) l

theorem decG_enc : ∀ (k : Nat) (l : List UInt8) (xs : List Ins), decG k l = some xs → l = encAll xs ∧ ∀ x ∈ xs, x.ok ∧ x.in64
  | 0, _, _, h => by simp [decG] at h
  | k + 1, [], xs, h => by simp [decG] at h; subst h; simp [encAll]
  | k + 1, b :: t, xs, h => by
    simp only [decG] at h
    cases ha : atF (b :: t) with
    | none => simp [ha] at h
    | some x =>
      simp only [ha, Option.bind_some, Option.map_eq_some_iff] at h
      obtain ⟨ys, h1, rfl⟩ := h
      obtain ⟨e1, e2⟩ := decG_enc k _ _ h1
      obtain ⟨o1, _, o3⟩ := enc_of_atF _ _ ha
      refine ⟨?_, ?_⟩
      · rw [o3, e1]
        rfl
      · intro y hy
        rcases List.mem_cons.1 hy with rfl | hy
        · exact ⟨o1, atF_in64 _ _ ha⟩
        · exact e2 y hy
theorem enc_decG : ∀ (xs : List Ins) (k : Nat), (∀ x ∈ xs, x.ok ∧ x.in64) → (encAll xs).length < k → decG k (encAll xs) = some xs
  | [], k + 1, _, _ => rfl
  | x :: xs, k + 1, h, hk => by
    have hx := h x List.mem_cons_self
    have e : encAll (x :: xs) = x.enc ++ encAll xs := rfl
    have hl := enc_length x
    have hp := len_pos x
    rw [e] at hk ⊢
    simp only [List.length_append] at hk
    have ha := atF_enc x hx.1 hx.2 (encAll xs)
    cases hq : x.enc ++ encAll xs with
    | nil => rw [hq] at ha; simp [atF] at ha
    | cons b t =>
      rw [hq] at ha
      simp only [decG, ha, Option.bind_some]
      rw [← hq, ← hl, List.drop_left, enc_decG xs k (fun y hy => h y (List.mem_cons_of_mem _ hy)) (by omega)]
      rfl
theorem decG_more : ∀ (k k' : Nat) (l : List UInt8), l.length < k → l.length < k' → decG k l = decG k' l
  | k + 1, k' + 1, [], _, _ => rfl
  | k + 1, k' + 1, b :: t, h, h' => by
    simp only [decG]
    cases ha : atF (b :: t) with
    | none => rfl
    | some x =>
      simp only [Option.bind_some]
      have hp := len_pos x
      simp only [List.length_cons] at h h'
      rw [decG_more k k' _ (by simp; omega) (by simp; omega)]
theorem decF_nil : decF [] = some [] := rfl
theorem decF_cons (b : UInt8) (t : List UInt8) : decF (b :: t) = (atF (b :: t)).bind fun x => (decF ((b :: t).drop x.len)).map (x :: ·) := by
  show decG ((b :: t).length + 1) (b :: t) = _
  simp only [decG, decF]
  cases atF (b :: t) with
  | none => rfl
  | some x =>
    simp only [Option.bind_some]
    have hp := len_pos x
    rw [decG_more (b :: t).length _ _ (by simp; omega) (Nat.lt_succ_self _)]
theorem decF_enc (l : List UInt8) (xs : List Ins) (h : decF l = some xs) : l = encAll xs ∧ ∀ x ∈ xs, x.ok ∧ x.in64 := decG_enc _ _ _ h
theorem enc_decF (xs : List Ins) (h : ∀ x ∈ xs, x.ok ∧ x.in64) : decF (encAll xs) = some xs := enc_decG xs _ h (Nat.lt_succ_self _)
end Go.Proofs.YtbigllcononkbaaDoor
