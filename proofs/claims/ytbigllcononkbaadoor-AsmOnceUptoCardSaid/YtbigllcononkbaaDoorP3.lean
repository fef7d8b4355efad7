/- The walk of the statement AsmOnce. -/
import Derived.Test.YtbigllcononkbaaDoorR14
import Derived.Test.YtbigllcononkbaaDoorP1
namespace Go.Proofs.YtbigllcononkbaaDoor
open Go Go.RowKit

theorem runL_err : ∀ (ls : List (List UInt8)) (a : Nat) (s : PSt) (n p : Int), runL codeOf ls a s = .error (n, p) → n ≠ 0
  | [], _, s, n, p, h => by simp only [runL] at h; cases h
  | l :: rest, a, s, n, p, h => by
    simp only [runL] at h
    cases hl : lineF codeOf s.ls s.size (toksAt a l) with
    | error e =>
      obtain ⟨n', p'⟩ := e
      rw [hl] at h
      cases h
      exact lineF_err hl
    | ok y =>
      obtain ⟨ls', r⟩ := y
      rw [hl] at h
      cases r with
      | none => exact runL_err rest _ _ n p h
      | some i => exact runL_err rest _ _ n p h
theorem resolveL_err {ls : Labs} : ∀ (xs : List InsR) (acc : List Ins) (n p : Int), resolveL ls xs acc = .error (n, p) → n ≠ 0
  | [], acc, n, p, h => by simp only [resolveL] at h; cases h
  | x :: xs, acc, n, p, h => by
    simp only [resolveL] at h
    cases hr : resolve1 ls x with
    | error e =>
      rw [hr] at h
      cases h
      unfold resolve1 at hr
      split at hr
      · cases hr
      · split at hr
        · cases hr; decide
        · cases hr
    | ok i => rw [hr] at h; exact resolveL_err xs _ n p h
theorem parseF_err {t : List UInt8} {n p : Int} (h : parseF t = .error (n, p)) : n ≠ 0 := by
  unfold parseF at h
  cases hr : runL codeOf (splitL t) 0 ⟨[], [], 0⟩ with
  | error e =>
    rw [hr] at h
    cases h
    exact runL_err _ _ _ _ _ hr
  | ok st =>
    rw [hr] at h
    simp only at h
    cases hl : resolveL st.ls st.xs [] with
    | error e => rw [hl] at h; cases h; exact resolveL_err _ _ _ _ hl
    | ok is => rw [hl] at h; cases h
/-- What is read is printed, and read back. -/
theorem print_parse {t s : List UInt8} (h : parseF t = .ok s) : ∃ u, printF s = .ok u ∧ parseF u = .ok s := by
  obtain ⟨xs, hs, hx, hl⟩ := parse_read h
  have hd : decF s = some xs := by rw [hs]; exact enc_decF xs hx
  have hp : ∃ u, printF s = .ok u := by
    unfold printF
    rw [if_neg (by omega), hd]
    exact ⟨_, rfl⟩
  obtain ⟨u, hu⟩ := hp
  exact ⟨u, hu, parse_print s u hu⟩
set_option maxRecDepth 100000 in
set_option maxHeartbeats 1600000 in
theorem asmOnce_any (t : ByteArray) (w : World) (hE : Env w) (ht : t.size ≤ 1048575) :
    Calls Tryd.prog 4 #[.string t] w fun e w' => e = .returned (.bool true) ∧ Below w.heap.size w w' := by
  have HE := Lib.hid hE
  clear hE
  cases hp : parseF t.data.toList with
  | error x =>
    obtain ⟨n, a⟩ := x
    have hn := parseF_err hp
    have hn2 : (n == 0) = false := by simpa using hn
    have hn3 : (n != 0) = true := by simpa using hn
    have hn4 : (n == n) = true := by simp
    have HP := Lib.hid hp
    clear hp hn
    go_enter Tryd.func4, Tryd.ntmps4
    go_wp2_with (first | (go_at_call 7; refine (parse_any t _ HE.out (by omega)).mono ?_; rintro e w1 ⟨hb1, he⟩; rw [HP.out] at he; obtain rfl := he) | (go_at_call 8; refine (parse14_any t _ ht).mono ?_; rintro e w2 ⟨hb2, he⟩; rw [HP.out] at he; obtain rfl := he))
    go_ret
    exact ⟨rfl, hb1.trans (hb2.mono hb1.size)⟩
  | ok s =>
    obtain ⟨u, hu, hb⟩ := print_parse hp
    obtain ⟨_, _, _, hsl⟩ := parse_read hp
    have hul := printF_len _ _ hu
    obtain ⟨z, hz⟩ : ∃ z : ByteArray, z = ⟨s.toArray⟩ := ⟨_, rfl⟩
    obtain ⟨y, hy⟩ : ∃ y : ByteArray, y = ⟨u.toArray⟩ := ⟨_, rfl⟩
    have hzd : z.data.toList = s := by rw [hz]
    have hyd : y.data.toList = u := by rw [hy]
    have hzs : z.size ≤ 1048576 := by rw [hz]; show (List.toArray _).size ≤ _; simp; omega
    have hys : y.size ≤ 1048576 := by rw [hy]; show (List.toArray _).size ≤ _; simpa using hul
    have hPz : Hid (printF z.data.toList = .ok u) := by show printF _ = _; rw [hzd]; exact hu
    have hPy : Hid (parseF y.data.toList = .ok s) := by show parseF _ = _; rw [hyd]; exact hb
    have HZ := Lib.hid hz.symm
    have HY := Lib.hid hy.symm
    have HP := Lib.hid hp
    clear hp hu hb hsl hul hzd hyd hz hy
    go_enter Tryd.func4, Tryd.ntmps4
    go_wp2_with fail
    refine (parse_any t _ HE.out (by omega)).mono ?_
    rintro e w1 ⟨hb1, he⟩
    rw [HP.out] at he
    simp only [HZ.out] at he
    obtain rfl := he
    have hE1 := Lib.hid (HE.out.grown hb1)
    go_wp2_with fail
    refine (parse14_any t _ ht).mono ?_
    rintro e w2 ⟨hb2, he⟩
    rw [HP.out] at he
    simp only [HZ.out] at he
    obtain rfl := he
    have hE2 := Lib.hid (hE1.out.grown hb2)
    go_wp2_with fail
    refine (print_any z _ hE2.out hzs).mono ?_
    rintro e w3 ⟨hb3, he⟩
    rw [hPz.out] at he
    simp only [HY.out] at he
    obtain rfl := he
    have hE3 := Lib.hid (hE2.out.grown hb3)
    go_wp2_with fail
    refine (parse_any y _ hE3.out hys).mono ?_
    rintro e w4 ⟨hb4, he⟩
    rw [hPy.out] at he
    simp only [HZ.out] at he
    obtain rfl := he
    have hE4 := Lib.hid (hE3.out.grown hb4)
    go_wp2_with fail
    refine (print_any z _ hE4.out hzs).mono ?_
    rintro e w5 ⟨hb5, he⟩
    rw [hPz.out] at he
    simp only [HY.out] at he
    obtain rfl := he
    go_wp2_with fail
    go_ret
    exact ⟨rfl, hb1.trans ((hb2.trans ((hb3.trans ((hb4.trans (hb5.mono hb4.size)).mono hb3.size)).mono hb2.size)).mono hb1.size)⟩
end Go.Proofs.YtbigllcononkbaaDoor
