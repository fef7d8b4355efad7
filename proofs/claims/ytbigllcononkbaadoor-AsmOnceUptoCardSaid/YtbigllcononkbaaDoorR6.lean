/- The walk of the definition's number (layer 14). -/
import Derived.Test.YtbigllcononkbaaDoorR5
namespace Go.Proofs.YtbigllcononkbaaDoor
open Go Go.RowKit

def NumIs (r : Option Int) (n : Int) (ok : Bool) : Prop := match r with | some v => n = v ∧ ok = true | none => ok = false
def NumPost (r : Option Int) (w : World) (e : Ending) (w' : World) : Prop := ∃ (n : Int) (ok : Bool), e = .returned (.tuple #[.int .i64 n, .bool ok]) ∧ NumIs r n ok ∧ w' = w
theorem head_get {s : ByteArray} (h : 0 < s.size) : s.data.toList.head? = some s[0] := by
  have hl : 0 < s.data.toList.length := by rw [Array.length_toList]; exact h
  rw [List.head?_eq_getElem?, List.getElem?_eq_getElem hl]
  rfl
theorem min_ne {s : ByteArray} (hm : s.data.toList ≠ minText) : (s.toList == [45, 57, 50, 50, 51, 51, 55, 50, 48, 51, 54, 56, 53, 52, 55, 55, 53, 56, 48, 56]) = false := by
  rw [beq_eq_false_iff_ne, ByteArray.toList_eq]
  exact hm
theorem byte_ne {b : UInt8} {n : Nat} (hn : n < 256) (h : b ≠ UInt8.ofNat n) : ((b.toNat : Int) == (n : Int)) = false := by
  rw [beq_eq_false_iff_ne]
  intro e
  exact h (UInt8.toNat_inj.1 (by rw [UInt8.toNat_ofNat_of_lt' (by simp only [UInt8.size]; omega)]; omega))
set_option maxRecDepth 100000 in
set_option maxHeartbeats 1600000 in
theorem number_empty (s : ByteArray) (w : World) (h0 : s.size = 0) :
    Calls Tryd.prog 66 #[.string s] w (NumPost none w) := by
  have hl : s.data.toList = [] := List.length_eq_zero_iff.1 (by rw [Array.length_toList]; exact h0)
  have hm : (s.toList == [45, 57, 50, 50, 51, 51, 55, 50, 48, 51, 54, 56, 53, 52, 55, 55, 53, 56, 48, 56]) = false := min_ne (by rw [hl]; decide)
  have he : s.toList = [] := by rw [ByteArray.toList_eq]; exact hl
  have he2 : s.toList.isEmpty = true := by rw [he]; rfl
  have hle : s.size ≤ 0 := by omega
  have HE := Lib.hid he
  clear hl h0 he
  go_enter Tryd.func66, Tryd.ntmps66
  go_wp2
  go_ret2
  exact ⟨0, false, rfl, rfl, rfl⟩
set_option maxRecDepth 100000 in
set_option maxHeartbeats 1600000 in
theorem number_long (s : ByteArray) (w : World) (hs : s.size ≤ 1048576) (h19 : 19 < s.size) (hm : s.data.toList ≠ minText) (h45 : s[0] ≠ 45) :
    Calls Tryd.prog 66 #[.string s] w (NumPost none w) := by
  have hmm := min_ne hm
  have he2 : s.toList.isEmpty = false := by
    rw [ByteArray.toList_eq]
    have := head_get (s := s) (by omega)
    cases hq : s.data.toList with
    | nil => rw [hq] at this; cases this
    | cons a t => rfl
  have hc : ((s[0].toNat : Int) == 45) = false := byte_ne (n := 45) (by omega) h45
  clear hm h45
  go_enter Tryd.func66, Tryd.ntmps66
  go_wp2
  go_ret2
  exact ⟨0, false, rfl, rfl, rfl⟩
set_option maxRecDepth 100000 in
set_option maxHeartbeats 1600000 in
theorem number_zero (s : ByteArray) (w : World) (h1 : 1 < s.size) (h19 : s.size ≤ 19) (h48 : s[0] = 48) :
    Calls Tryd.prog 66 #[.string s] w (NumPost none w) := by
  have hh := head_get (s := s) (by omega)
  have hmm := min_ne (s := s) (fun e => by rw [e] at hh; rw [h48] at hh; cases hh)
  have he2 : s.toList.isEmpty = false := by
    rw [ByteArray.toList_eq]
    cases hq : s.data.toList with
    | nil => rw [hq] at hh; cases hh
    | cons a t => rfl
  have hc : ((s[0].toNat : Int) == 45) = false := by rw [h48]; rfl
  have hc2 : ((s[0].toNat : Int) == 48) = true := by rw [h48]; rfl
  clear hh h48
  go_enter Tryd.func66, Tryd.ntmps66
  go_wp2
  go_ret2
  exact ⟨0, false, rfl, rfl, rfl⟩
/-- The digits' round. -/
theorem dig_iff (b : UInt8) : digB b = true ↔ 48 ≤ (b.toNat : Int) ∧ (b.toNat : Int) ≤ 57 := by simp [digB]; omega
theorem decV_lt (l : List UInt8) (ha : l.all digB = true) : decV l < 10 ^ l.length := by
  revert ha
  refine snoc_ind (P := fun l => l.all digB = true → decV l < 10 ^ l.length) (fun _ => by simp [decV]) (fun p d ih ha => ?_) l
  simp only [List.all_append, Bool.and_eq_true, List.all_cons, List.all_nil, Bool.and_true, digB, decide_eq_true_eq] at ha
  have := ih (by simpa [digB] using ha.1)
  rw [decV_snoc, List.length_append, List.length_singleton, Nat.pow_succ]
  omega
set_option maxRecDepth 100000 in
set_option maxHeartbeats 1600000 in
theorem number_digits (s : ByteArray) (w : World) (h1 : 0 < s.size) (h19 : s.size ≤ 19) (h45 : 1 < s.size → s[0] ≠ 45 ∧ s[0] ≠ 48) :
    Calls Tryd.prog 66 #[.string s] w (NumPost (natF s.data.toList) w) := by
  have hh := head_get (s := s) (by omega)
  have hln : s.data.toList.length = s.size := Array.length_toList
  have hmm := min_ne (s := s) (fun e => by have := congrArg List.length e; rw [hln] at this; simp [minText] at this; omega)
  have he2 : s.toList.isEmpty = false := by
    rw [ByteArray.toList_eq]
    cases hq : s.data.toList with
    | nil => rw [hq] at hh; cases hh
    | cons a t => rfl
  have hnat : natF s.data.toList = if s.data.toList.all digB = true then (if decV s.data.toList ≤ 9223372036854775807 then some (decV s.data.toList : Int) else none) else none := by
    unfold natF
    rw [if_neg]
    rintro (h | h | ⟨h, h2⟩)
    · rw [h] at hh; cases hh
    · omega
    · rw [hh] at h2
      exact (h45 (by omega)).2 (Option.some.inj h2)
  have hcs : s.size ≤ 1 ∨ (1 < s.size ∧ ((s[0].toNat : Int) == 45) = false ∧ ((s[0].toNat : Int) == 48) = false) := by
    rcases Nat.lt_or_ge 1 s.size with h | h
    · exact .inr ⟨h, byte_ne (n := 45) (by omega) (h45 h).1, byte_ne (n := 48) (by omega) (h45 h).2⟩
    · exact .inl h
  have HN := Lib.hid hnat
  clear hnat hh h45
  rcases hcs with hcs | ⟨hcs, hc1, hc2⟩
  all_goals
    go_enter Tryd.func66, Tryd.ntmps66
    go_wp2
    go_loop [6, 7] (fun n i => ∃ k : Nat, k ≤ s.size ∧ i = .int .i64 k ∧ n = .int .u64 (decV (s.data.toList.take k)) ∧ Hid ((s.data.toList.take k).all digB = true)) (fun _ i => s.size - (intOf i).toNat)
    case atStart => exact ⟨0, by omega, rfl, rfl, rfl⟩
    case round =>
      obtain ⟨k, hk, rfl, rfl, HK⟩ := hrel
      have hlt' := decV_lt _ HK.out
      have hpw : 10 ^ (s.data.toList.take k).length ≤ 10 ^ 19 := Nat.pow_le_pow_right (by omega) (by rw [List.length_take]; omega)
      by_cases hlt : k < s.size
      · have hpw2 : 10 ^ (s.data.toList.take k).length ≤ 10 ^ 18 := Nat.pow_le_pow_right (by omega) (by rw [List.length_take]; omega)
        have htk : s.data.toList.take (k + 1) = s.data.toList.take k ++ [s[k]] := List.take_succ_eq_append_getElem (by omega)
        have hb18 : decV (s.data.toList.take k) < 1000000000000000000 := by omega
        clear hlt' hpw hpw2
        by_cases hd : digB s[k] = true
        · obtain ⟨d1, d2⟩ := (dig_iff _).1 hd
          have HT := Lib.hid (show (s.data.toList.take (k + 1)).all digB = true by rw [htk, List.all_append, HK.out]; simp [hd])
          have HV := Lib.hid (show decV (s.data.toList.take (k + 1)) = decV (s.data.toList.take k) * 10 + (s[k].toNat - 48) by rw [htk, decV_snoc])
          clear htk hd HK
          generalize decV (s.data.toList.take k) = V at *
          go_wp2
          go_round
          case rel =>
            refine ⟨k + 1, by omega, by go_num, ?_, HT.out⟩
            rw [HV.out]
            congr 1
            omega
          case measure => simp [intOf]; omega
        · have hd2 : ¬ (48 ≤ (s[k].toNat : Int) ∧ (s[k].toNat : Int) ≤ 57) := fun h => hd ((dig_iff _).2 h)
          have HF := Lib.hid (show s.data.toList.all digB = false by
            rw [List.all_eq_false]
            exact ⟨s[k], List.mem_of_getElem? (i := k) (by rw [List.getElem?_eq_getElem (by omega)]; rfl), by simpa using hd⟩)
          clear htk hd HK
          rcases Int.lt_or_le (s[k].toNat : Int) 48 with hx | hx
          · clear hd2
            go_wp2
            go_ret2
            exact ⟨0, false, rfl, by rw [HN.out, HF.out]; rfl, rfl⟩
          · have hx2 : 57 < (s[k].toNat : Int) := by omega
            clear hd2
            go_wp2
            go_ret2
            exact ⟨0, false, rfl, by rw [HN.out, HF.out]; rfl, rfl⟩
      · obtain rfl : k = s.size := by omega
        rw [List.take_of_length_le (by omega)] at hlt' HK ⊢
        clear hlt' hpw
        by_cases hV : decV s.data.toList ≤ 9223372036854775807
        · have HF := Lib.hid (show natF s.data.toList = some (decV s.data.toList : Int) by rw [HN.out, if_pos HK.out, if_pos hV])
          have hV2 : (decV s.data.toList : Int) ≤ 9223372036854775807 := by omega
          clear hV HK HN
          generalize decV s.data.toList = V at *
          go_wp2
          go_ret2
          exact ⟨V, true, rfl, by rw [HF.out]; exact ⟨rfl, rfl⟩, rfl⟩
        · have HF := Lib.hid (show natF s.data.toList = none by rw [HN.out, if_pos HK.out, if_neg hV])
          have hV2 : 9223372036854775807 < (decV s.data.toList : Int) := by omega
          clear hV HK HN
          generalize decV s.data.toList = V at *
          go_wp2
          go_ret2
          exact ⟨0, false, rfl, by rw [HF.out]; rfl, rfl⟩
set_option maxRecDepth 100000 in
set_option maxHeartbeats 1600000 in
theorem number_min (s : ByteArray) (w : World) (hm : s.data.toList = minText) :
    Calls Tryd.prog 66 #[.string s] w (NumPost (some (-9223372036854775808)) w) := by
  have hmm : (s.toList == [45, 57, 50, 50, 51, 51, 55, 50, 48, 51, 54, 56, 53, 52, 55, 55, 53, 56, 48, 56]) = true := by
    rw [beq_iff_eq, ByteArray.toList_eq]
    exact hm
  clear hm
  go_enter Tryd.func66, Tryd.ntmps66
  go_wp2
  go_ret2
  exact ⟨_, true, rfl, ⟨rfl, rfl⟩, rfl⟩
def negF (r : Option Int) : Option Int := match r with | some n => if 0 < n then some (-n) else none | none => none
set_option maxRecDepth 100000 in
set_option maxHeartbeats 1600000 in
theorem number_sign (s : ByteArray) (w : World) (hs : s.size ≤ 1048576) (h1 : 1 < s.size) (h45 : s[0] = 45) (hm : s.data.toList ≠ minText) (r : Option Int) (hr : ∀ n, r = some n → -9223372036854775808 ≤ n ∧ n ≤ 9223372036854775807)
    (ih : ∀ w, Calls Tryd.prog 66 #[.string (s.extract 1 s.size)] w (NumPost r w)) :
    Calls Tryd.prog 66 #[.string s] w (NumPost (negF r) w) := by
  have hmm := min_ne hm
  have hc : ((s[0].toNat : Int) == 45) = true := by rw [h45]; rfl
  have IH := Lib.hid ih
  have HR := Lib.hid hr
  clear ih hm h45 hr
  cases r with
  | none =>
    go_enter Tryd.func66, Tryd.ntmps66
    go_wp2_with (go_at_call 66; refine (IH.out _).mono ?_; rintro e w3 ⟨n, ok, rfl, hok, h3⟩; obtain rfl : ok = false := hok; rw [h3]; clear h3 w3)
    go_ret2
    exact ⟨_, false, rfl, rfl, rfl⟩
  | some v =>
    obtain ⟨v0, v1⟩ := HR.out v rfl
    by_cases hv : 0 < v
    · go_enter Tryd.func66, Tryd.ntmps66
      go_wp2_with (go_at_call 66; refine (IH.out _).mono ?_; rintro e w3 ⟨n, ok, rfl, hok, h3⟩; obtain ⟨rfl, rfl⟩ := hok; rw [h3]; clear h3 w3)
      go_ret2
      exact ⟨_, true, rfl, by simp only [negF, if_pos hv]; exact ⟨rfl, rfl⟩, rfl⟩
    · have hv2 : decide (0 < v) = false := by simpa using hv
      go_enter Tryd.func66, Tryd.ntmps66
      go_wp2_with (go_at_call 66; refine (IH.out _).mono ?_; rintro e w3 ⟨n, ok, rfl, hok, h3⟩; obtain ⟨rfl, rfl⟩ := hok; rw [h3]; clear h3 w3)
      go_ret2
      exact ⟨_, false, rfl, by rw [negF, if_neg (of_decide_eq_false hv2)]; rfl, rfl⟩
/-- The definition's number. -/
theorem number_any : ∀ (n : Nat) (s : ByteArray) (w : World), s.size = n → s.size ≤ 1048576 → Calls Tryd.prog 66 #[.string s] w (NumPost (numB s.data.toList) w) := by
  intro n
  induction n using Nat.strongRecOn with
  | ind n ih =>
    intro s w hn hs
    have hln : s.data.toList.length = s.size := Array.length_toList
    rw [← numF_numB]
    by_cases h0 : s.size = 0
    · have := number_empty s w h0
      rw [List.length_eq_zero_iff.1 (show s.data.toList.length = 0 by omega)]
      exact this
    · have hh := head_get (s := s) (by omega)
      cases hl : s.data.toList with
      | nil => rw [hl] at hh; cases hh
      | cons b t =>
        have hb : b = s[0] := by rw [hl] at hh; exact Option.some.inj hh
        have hlt : t.length + 1 = s.size := by rw [← hln, hl]; rfl
        rw [numF]
        by_cases hm : b :: t = minText
        · rw [if_pos hm]
          exact number_min s w (by rw [hl]; exact hm)
        · rw [if_neg hm]
          by_cases h45 : b = 45 ∧ t ≠ []
          · rw [if_pos h45]
            have htl : 0 < t.length := List.length_pos_iff.2 h45.2
            have hex : (s.extract 1 s.size).data.toList = t := by
              rw [ByteArray.data_extract, Array.toList_extract, List.extract_eq_take_drop, hl]
              simp only [List.drop_succ_cons, List.drop_zero]
              rw [List.take_of_length_le (by omega)]
            have hez : (s.extract 1 s.size).size = s.size - 1 := by rw [ByteArray.size_extract]; omega
            show Calls _ _ _ _ (NumPost (negF (numF t)) w)
            refine number_sign s w hs (by omega) (by rw [← hb]; exact h45.1) (by rw [hl]; exact hm) (numF t) (fun v hv => ?_) fun w => ?_
            · have := numF_itoa t v hv
              exact ⟨this.1, this.2.1⟩
            · have := ih (s.size - 1) (by omega) (s.extract 1 s.size) w hez (by omega)
              rw [← numF_numB, hex] at this
              exact this
          · rw [if_neg h45]
            by_cases h19 : 19 < s.size
            · have h5 : s[0] ≠ 45 := fun e => h45 ⟨hb.trans e, fun e2 => by rw [e2] at hlt; simp at hlt; omega⟩
              have := number_long s w hs h19 (by rw [hl]; exact hm) h5
              unfold natF
              rw [if_pos (.inr (.inl (by rw [← hl]; omega)))]
              exact this
            · by_cases h48 : 1 < s.size ∧ s[0] = 48
              · have := number_zero s w h48.1 (by omega) h48.2
                unfold natF
                rw [if_pos (.inr (.inr ⟨by rw [← hl]; omega, by rw [List.head?_cons, hb, h48.2]⟩))]
                exact this
              · have := number_digits s w (by omega) (by omega) (fun h => ⟨fun e => h45 ⟨hb.trans e, fun e2 => by rw [e2] at hlt; simp at hlt; omega⟩, fun e => h48 ⟨h, e⟩⟩)
                rw [hl] at this
                exact this
end Go.Proofs.YtbigllcononkbaaDoor
