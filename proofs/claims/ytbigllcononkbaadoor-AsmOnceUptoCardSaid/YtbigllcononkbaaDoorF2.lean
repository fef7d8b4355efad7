/- Plain law: asm.Parse of what asm.Print writes is the program. -/
import Derived.Test.YtbigllcononkbaaDoorE3
import Derived.Test.YtbigllcononkbaaDoorF1
namespace Go.Proofs.YtbigllcononkbaaDoor
open Go Go.RowKit

def labsOf (mk : Int → Bool) : List Ins → Nat → Labs
  | [], a => if mk a = true then [(lab a, a)] else []
  | x :: xs, a => (if mk a = true then [(lab a, a)] else []) ++ labsOf mk xs (a + x.len)
def isRead (beg : Int → Bool) (x : Ins) (a : Nat) (r : InsR) : Prop := r.c = x.c ∧ r.p = a ∧ (if refB beg x a = true then r.nm = [76] ++ Lib.itoa (tgt x a) else r.nm = [] ∧ r.o = x.o)
def readAll (beg : Int → Bool) : List Ins → Nat → List InsR → Prop
  | [], _, rs => rs = []
  | x :: xs, a, rs => ∃ r rs', rs = r :: rs' ∧ isRead beg x a r ∧ readAll beg xs (a + x.len) rs'
theorem leads_width {c : Nat} (h : leadsB c = true) : 0 < widthN (shapeN c) := by
  simp only [leadsB, decide_eq_true_eq] at h
  rcases h with rfl | rfl | rfl <;> decide
theorem fits_none {c : Nat} {o : Int} (h : fitsB (shapeN c) o = true) (hw : ¬ 0 < widthN (shapeN c)) : o = 0 := by
  have h6 := shapeN_le c
  generalize shapeN c = k at *
  unfold widthN at hw
  unfold fitsB at h
  split at hw
  · omega
  · split at hw
    · omega
    · split at hw
      · omega
      · repeat' split at h
        all_goals first | omega | simpa using h
theorem line_ins (beg : Int → Bool) (x : Ins) (a p : Nat) (ls : Labs) (hx : x.ok) (h64 : x.in64) (ha : a + x.len ≤ 512) (ht : refB beg x a = true → ∃ b : Nat, tgt x a = b ∧ b < 1000) :
    ∃ r, lineF codeOf ls a (toksAt p (nameOf x.c ++ tailT beg x a)) = .ok (ls, some r) ∧ isRead beg x a r := by
  obtain ⟨n1, n2, n3, n4⟩ := names_ok x.c hx.1
  have n1' : ink (nameOf x.c) := fun b hb => List.all_eq_true.1 n1 b hb
  have hsz : ¬ 512 < a + (1 + widthN (shapeN x.c)) := by have : x.len = 1 + widthN (shapeN x.c) := rfl; omega
  change nameOf x.c ≠ [] at n2
  change Lib.hasSuffix (nameOf x.c) [58] = false at n3
  change codeOf (nameOf x.c) = some x.c at n4
  cases hr : refB beg x a with
  | true =>
    obtain ⟨b, hb, hb2⟩ := ht hr
    have hl : leadsB x.c = true := by simp only [refB, Bool.and_eq_true] at hr; exact hr.1
    have e : nameOf x.c ++ tailT beg x a = nameOf x.c ++ [32] ++ lab b := by rw [tailT, if_pos hr, hb, lab]; simp
    rw [e, toksAt, toks_two n1' (lab_ink b) n2 (by simp [lab])]
    refine ⟨⟨x.c, 0, a, lab b, ((p + ((nameOf x.c).length + 1) : Nat) : Int)⟩, ?_, rfl, rfl, ?_⟩
    · simp only [List.map_cons, List.map_nil, lineF, labStage, n3, Bool.false_eq_true, if_false, insF, n4, opStage, if_pos (leads_width hl), operF, lab_num, hl, lab_name b hb2, Bool.and_self, if_true, if_neg hsz]
    · rw [if_pos hr, hb]; rfl
  | false =>
    by_cases hw : 0 < widthN (shapeN x.c)
    · have e : nameOf x.c ++ tailT beg x a = nameOf x.c ++ [32] ++ Lib.itoa x.o := by rw [tailT, if_neg (by rw [hr]; decide), if_pos (by show 1 < 1 + widthN (shapeN x.c); omega)]; simp
      rw [e, toksAt, toks_two n1' (ink_itoa _) n2 (itoa_ne _)]
      refine ⟨⟨x.c, x.o, a, [], 0⟩, ?_, rfl, rfl, ?_⟩
      · simp only [List.map_cons, List.map_nil, lineF, labStage, n3, Bool.false_eq_true, if_false, insF, n4, opStage, if_pos hw, operF, numB_itoa x.o h64.1 h64.2, hx.2, if_true, if_neg hsz]
      · rw [if_neg (by rw [hr]; decide)]; exact ⟨rfl, rfl⟩
    · have e : nameOf x.c ++ tailT beg x a = nameOf x.c := by rw [tailT, if_neg (by rw [hr]; decide), if_neg (by show ¬ 1 < 1 + widthN (shapeN x.c); omega)]; simp
      rw [e, toksAt, toks_one n1' n2]
      refine ⟨⟨x.c, 0, a, [], 0⟩, ?_, rfl, rfl, ?_⟩
      · simp only [List.map_cons, List.map_nil, lineF, labStage, n3, Bool.false_eq_true, if_false, insF, n4, opStage, if_neg hw, if_neg hsz]
      · rw [if_neg (by rw [hr]; decide)]
        exact ⟨rfl, (fits_none hx.2 hw).symm⟩
theorem line_lab (a p size : Nat) (ls : Labs) (ha : a < 1000) (hl : lookN ls (lab a) = none) : lineF codeOf ls size (toksAt p (lab a ++ [58])) = .ok (ls ++ [(lab a, size)], none) := by
  have hi : ink (lab a ++ [58]) := ink_append (lab_ink a) (by intro b hb; simp at hb; subst hb; decide)
  rw [toksAt, toks_one hi (by simp)]
  simp only [List.map_cons, List.map_nil, lineF, labStage, (lab_suffix a).1, if_true, (lab_suffix a).2, lab_name a ha, hl]
theorem line_none (p size : Nat) (ls : Labs) : lineF codeOf ls size (toksAt p []) = .ok (ls, none) := rfl
theorem labelT_eq (mk : Int → Bool) (a : Nat) : labelT mk a = if mk a = true then lab a ++ [58] ++ [10] else [] := by
  unfold labelT lab
  split <;> simp
theorem run_label (mk : Int → Bool) (a p : Nat) (ls : Labs) (rs : List InsR) (T : List UInt8) (ha : a < 1000) (hl : ∀ q ∈ ls, ∃ b, b < a ∧ q.1 = lab b) :
    ∃ p', runL codeOf (splitL (labelT mk a ++ T)) p ⟨ls, rs, a⟩ = runL codeOf (splitL T) p' ⟨ls ++ (if mk a = true then [(lab a, a)] else []), rs, a⟩ := by
  rw [labelT_eq]
  by_cases hm : mk a = true
  · rw [if_pos hm, if_pos hm]
    have e : lab a ++ [58] ++ [10] ++ T = (lab a ++ [58]) ++ 10 :: T := by simp
    rw [e, split_line _ _ (ink_end (ink_append (lab_ink a) (by intro b hb; simp at hb; subst hb; decide)))]
    have hn : lookN ls (lab a) = none := by
      simp only [lookN, Option.map_eq_none_iff, List.find?_eq_none, decide_eq_true_eq]
      intro q hq e
      obtain ⟨b, hb, h2⟩ := hl q hq
      have := lab_inj ha (by omega) (e.trans h2)
      omega
    refine ⟨p + (lab a ++ [58]).length + 1, ?_⟩
    rw [runL, line_lab a p a ls ha hn]
  · rw [if_neg hm, if_neg hm, List.nil_append, List.append_nil]
    exact ⟨p, rfl⟩
theorem run_out (beg mk : Int → Bool) (hbeg : ∀ q, beg q = true → ∃ b : Nat, q = b ∧ b < 1000) : ∀ (xs : List Ins) (a p : Nat) (ls : Labs) (rs : List InsR), (∀ x ∈ xs, x.ok ∧ x.in64) → a + (encAll xs).length ≤ 512 → (∀ q ∈ ls, ∃ b, b < a ∧ q.1 = lab b) →
    ∃ rs', runL codeOf (splitL (outT beg mk xs a)) p ⟨ls, rs, a⟩ = .ok ⟨ls ++ labsOf mk xs a, rs ++ rs', a + (encAll xs).length⟩ ∧ readAll beg xs a rs'
  | [], a, p, ls, rs, _, ha, hl => by
    obtain ⟨p', h⟩ := run_label mk a p ls rs [] (by omega) hl
    rw [List.append_nil] at h
    refine ⟨[], ?_, rfl⟩
    rw [outT, h]
    show runL codeOf [[]] p' _ = _
    rw [runL, line_none]
    simp only [runL]
    simp [labsOf, encAll]
  | x :: xs, a, p, ls, rs, hx, ha, hl => by
    have hel : (encAll (x :: xs)).length = x.len + (encAll xs).length := by rw [show encAll (x :: xs) = x.enc ++ encAll xs from rfl, List.length_append, enc_length]
    rw [hel] at ha ⊢
    have hx1 := hx x List.mem_cons_self
    have hxp := len_pos x
    obtain ⟨p', h⟩ := run_label mk a p ls rs (lineT beg x a ++ outT beg mk xs (a + x.len)) (by omega) hl
    obtain ⟨n1, _, _, _⟩ := names_ok x.c hx1.1.1
    have n1' : ink (nameOf x.c) := fun b hb => List.all_eq_true.1 n1 b hb
    have hne : ∀ b ∈ nameOf x.c ++ tailT beg x a, b ≠ 10 := by
      intro b hb
      rcases List.mem_append.1 hb with hb | hb
      · exact ink_end n1' b hb
      · unfold tailT at hb
        split at hb
        · rcases List.mem_append.1 hb with hb | hb
          · simp at hb; rcases hb with rfl | rfl <;> decide
          · exact ink_end (ink_itoa _) b hb
        · split at hb
          · rcases List.mem_append.1 hb with hb | hb
            · simp at hb; subst hb; decide
            · exact ink_end (ink_itoa _) b hb
          · simp at hb
    obtain ⟨r, hr1, hr2⟩ := line_ins beg x a p' (ls ++ (if mk a = true then [(lab a, a)] else [])) hx1.1 hx1.2 (by omega) (fun hr => by
      simp only [refB, Bool.and_eq_true] at hr
      exact hbeg _ hr.2)
    have e : lineT beg x a ++ outT beg mk xs (a + x.len) = (nameOf x.c ++ tailT beg x a) ++ 10 :: outT beg mk xs (a + x.len) := by simp [lineT]
    obtain ⟨rs', h1, h2⟩ := run_out beg mk hbeg xs (a + x.len) (p' + (nameOf x.c ++ tailT beg x a).length + 1) (ls ++ (if mk a = true then [(lab a, a)] else [])) (rs ++ [r]) (fun y hy => hx y (List.mem_cons_of_mem _ hy)) (by omega) (by
      intro q hq
      rcases List.mem_append.1 hq with hq | hq
      · obtain ⟨b, hb, h2⟩ := hl q hq
        exact ⟨b, by omega, h2⟩
      · split at hq
        · simp at hq; subst hq; exact ⟨a, by omega, rfl⟩
        · simp at hq)
    refine ⟨r :: rs', ?_, r, rs', rfl, hr2, h2⟩
    have e2 : outT beg mk (x :: xs) a = labelT mk a ++ (lineT beg x a ++ outT beg mk xs (a + x.len)) := by rw [outT, List.append_assoc]
    rw [e2, h, e, split_line _ _ hne, runL, hr1]
    simp only
    rw [show 1 + widthN (shapeN r.c) = x.len from by rw [hr2.1]; rfl, h1, labsOf]
    simp only [List.append_assoc, Nat.add_assoc, List.singleton_append]
theorem labs_look (mk : Int → Bool) (b : Nat) (hb : b < 1000) (hm : mk b = true) : ∀ (xs : List Ins) (a : Nat), a + (encAll xs).length ≤ 512 → (b : Int) = ((a + (encAll xs).length : Nat) : Int) ∨ inStarts xs a b = true → lookN (labsOf mk xs a) (lab b) = some b
  | [], a, ha, h => by
    have : b = a := by
      rcases h with h | h
      · simp [encAll] at h; omega
      · simp [inStarts] at h
    subst this
    simp [labsOf, hm, lookN]
  | x :: xs, a, ha, h => by
    have hel : (encAll (x :: xs)).length = x.len + (encAll xs).length := by rw [show encAll (x :: xs) = x.enc ++ encAll xs from rfl, List.length_append, enc_length]
    rw [hel] at ha h
    by_cases hab : b = a
    · subst hab
      rw [labsOf, if_pos hm]
      simp [lookN]
    · have ih := labs_look mk b hb hm xs (a + x.len) (by omega) (by
        rcases h with h | h
        · left; rw [h]; omega
        · right
          rw [inStarts, Bool.or_eq_true, decide_eq_true_eq] at h
          rcases h with h | h
          · omega
          · exact h)
      rw [labsOf]
      split
      · have hn : ¬ lab b = lab a := fun e => hab (lab_inj hb (by omega) e)
        simp only [lookN, List.singleton_append, List.find?_cons, hn, decide_false] at ih ⊢
        exact ih
      · rw [List.nil_append]; exact ih
theorem resolve_one (beg : Int → Bool) (x : Ins) (a : Nat) (r : InsR) (L : Labs) (hx : x.ok) (ha : a ≤ 512) (hr : isRead beg x a r) (hL : refB beg x a = true → ∃ b : Nat, tgt x a = b ∧ lookN L (lab b) = some b) : resolve1 L r = .ok x := by
  obtain ⟨h1, h2, h3⟩ := hr
  by_cases hb : refB beg x a = true
  · rw [if_pos hb] at h3
    obtain ⟨b, hb1, hb2⟩ := hL hb
    rw [hb1] at h3
    change r.nm = lab b at h3
    rw [resolve1, h3, if_neg (by simp [lab]), hb2]
    have hl : leadsB x.c = true := by simp only [refB, Bool.and_eq_true] at hb; exact hb.1
    obtain ⟨c, o⟩ := x
    simp only at h1 h2 hl
    have hf := hx.2
    simp only at hf
    simp only [h1, h2]
    simp only [leadsB, decide_eq_true_eq] at hl
    unfold tgt at hb1
    simp only at hb1
    by_cases h26 : c = 26
    · subst h26
      rw [if_pos rfl] at hb1
      rw [if_pos rfl, hb1]
    · rw [if_neg h26] at hb1 ⊢
      have hs : shapeN c = 2 := by
        rcases hl with rfl | rfl | rfl
        · decide
        · decide
        · omega
      rw [hs] at hf
      simp only [fitsB] at hf
      simp at hf
      unfold wrap64 at hb1
      congr 2
      omega
  · rw [if_neg hb] at h3
    rw [resolve1, if_pos h3.1]
    obtain ⟨c, o⟩ := x
    simp only at h1 h3
    rw [h1, h3.2]
def refsOk (beg : Int → Bool) (L : Labs) : List Ins → Nat → Prop
  | [], _ => True
  | x :: xs, a => (refB beg x a = true → ∃ b : Nat, tgt x a = b ∧ lookN L (lab b) = some b) ∧ refsOk beg L xs (a + x.len)
theorem resolve_all (beg : Int → Bool) (L : Labs) : ∀ (xs : List Ins) (a : Nat) (rs : List InsR) (acc : List Ins), (∀ x ∈ xs, x.ok) → a + (encAll xs).length ≤ 512 → readAll beg xs a rs → refsOk beg L xs a → resolveL L rs acc = .ok (acc ++ xs)
  | [], a, rs, acc, _, _, h, _ => by
    cases h
    simp [resolveL]
  | x :: xs, a, rs, acc, hx, ha, ⟨r, rs', e, h1, h2⟩, ⟨h3, h4⟩ => by
    have hel : (encAll (x :: xs)).length = x.len + (encAll xs).length := by rw [show encAll (x :: xs) = x.enc ++ encAll xs from rfl, List.length_append, enc_length]
    subst e
    rw [resolveL, resolve_one beg x a r L (hx x List.mem_cons_self) (by omega) h1 h3]
    simp only
    rw [resolve_all beg L xs (a + x.len) rs' (acc ++ [x]) (fun y hy => hx y (List.mem_cons_of_mem _ hy)) (by omega) h2 h4]
    simp
theorem refs_of (beg mk : Int → Bool) (L : Labs) (h1 : ∀ b : Nat, beg b = true → mk b = true → lookN L (lab b) = some b) (h2 : ∀ q, beg q = true → ∃ b : Nat, q = b) : ∀ (xs : List Ins) (a : Nat), (∀ q, marksF beg xs a q = true → mk q = true) → refsOk beg L xs a
  | [], _, _ => trivial
  | x :: xs, a, hm => by
    refine ⟨fun hr => ?_, refs_of beg mk L h1 h2 xs (a + x.len) fun q hq => hm q (by rw [marksF, hq, Bool.or_true])⟩
    have hb : beg (tgt x a) = true := by simp only [refB, Bool.and_eq_true] at hr; exact hr.2
    obtain ⟨b, hb2⟩ := h2 _ hb
    refine ⟨b, hb2, h1 b (hb2 ▸ hb) (hm b ?_)⟩
    rw [marksF, hr, hb2]
    simp
theorem starts_nat : ∀ (xs : List Ins) (a : Nat) (q : Int), inStarts xs a q = true → ∃ b : Nat, q = b ∧ b ≤ a + (encAll xs).length
  | [], a, q, h => by simp [inStarts] at h
  | x :: xs, a, q, h => by
    have hel : (encAll (x :: xs)).length = x.len + (encAll xs).length := by rw [show encAll (x :: xs) = x.enc ++ encAll xs from rfl, List.length_append, enc_length]
    rw [inStarts, Bool.or_eq_true, decide_eq_true_eq] at h
    rcases h with h | h
    · exact ⟨a, h, by omega⟩
    · obtain ⟨b, h1, h2⟩ := starts_nat xs (a + x.len) q h
      exact ⟨b, h1, by omega⟩
theorem encOut_all : ∀ (xs : List Ins) (acc : List UInt8), (∀ x ∈ xs, x.ok) → (acc ++ encAll xs).length ≤ 512 → encOut.encR' xs acc = some (acc ++ encAll xs) := fun xs acc h hl => by
  rw [encOut_R, encR_ok xs acc h hl]
/-- asm.Parse of what asm.Print writes. -/
theorem parse_print (s t : List UInt8) (h : printF s = .ok t) : parseF t = .ok s := by
  unfold printF at h
  split at h
  · cases h
  · rename_i h5
    split at h
    · cases h
    · rename_i xs hd
      cases h
      obtain ⟨hs, hx⟩ := decF_enc s xs hd
      have hl : (encAll xs).length = s.length := by rw [← hs]
      have hbeg : ∀ q, begF xs s.length q = true → ∃ b : Nat, q = b ∧ b < 1000 := fun q hq => by
        rw [begF, Bool.or_eq_true, decide_eq_true_eq] at hq
        rcases hq with hq | hq
        · exact ⟨s.length, hq, by omega⟩
        · obtain ⟨b, h1, h2⟩ := starts_nat xs 0 q hq
          exact ⟨b, h1, by omega⟩
      obtain ⟨rs, h1, h2⟩ := run_out (begF xs s.length) (marksF (begF xs s.length) xs 0) hbeg xs 0 0 [] [] hx (by omega) (by simp)
      have hr := resolve_all (begF xs s.length) (labsOf (marksF (begF xs s.length) xs 0) xs 0) xs 0 rs [] (fun x h => (hx x h).1) (by omega) h2
        (refs_of _ (marksF (begF xs s.length) xs 0) _ (fun b hb hm => labs_look _ b (by obtain ⟨b', e, hb'⟩ := hbeg _ hb; omega) hm xs 0 (by omega) (by
          rw [begF, Bool.or_eq_true, decide_eq_true_eq] at hb
          rcases hb with hb | hb
          · left; rw [hb]; omega
          · exact .inr hb)) (fun q hq => by obtain ⟨b, e, _⟩ := hbeg q hq; exact ⟨b, e⟩) xs 0 fun q hq => hq)
      rw [parseF, h1]
      simp only [List.nil_append] at hr ⊢
      rw [hr]
      simp only
      rw [encOut, encOut_all xs [] (fun x h => (hx x h).1) (by rw [List.nil_append]; omega), List.nil_append, ← hs]
end Go.Proofs.YtbigllcononkbaaDoor
