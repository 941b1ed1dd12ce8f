/- The small functions that read numbers out of words, the references' own, and how numbers are compared: the walks. Words are below 2^64. -/
import Derived.Test.YtiajmjmneodfaaaDoorWords
namespace Go.Proofs.YtiajmjmneodfaaaDoor
open Go.RowKit Fl

theorem frombits_nat (n : Nat) (w : World) : (callFunc 17 #[.int .u64 (n : Int)]).run Tryd.prog w = .ok (.value (.float .f64 n)) w := frombits_any n w

set_option maxHeartbeats 400000 in
theorem nan_any (w : World) : Calls Tryd.prog 37 #[] w fun e w' => e = .returned (.float .f64 9221120237041090561) ∧ w = w' := by
  have hb := frombits_any
  go_enter Tryd.func37, Tryd.ntmps37
  go_wp2
  go_ret
  exact ⟨rfl, rfl⟩

def backN (c : Nat) : Nat := if nanB (bitsOf c) = true then noneBits else bitsOf c

theorem sg_high {c : Nat} (h : 9223372036854775808 ≤ c) (h2 : c < 18446744073709551616) : sg c = true := by unfold sg; simp; omega
theorem sg_low {c : Nat} (h : c < 9223372036854775808) : sg c = false := by unfold sg; simp; omega
theorem rung_high {c : Nat} (h : 9223372036854775808 ≤ c) (h2 : c < 18446744073709551616) : rung c = c - 9223372036854775808 := by unfold rung; omega

set_option maxHeartbeats 800000 in
theorem back_any (c : Nat) (hc : c < 18446744073709551616) (w : World) : Calls Tryd.prog 34 #[.int .u64 (c : Int)] w fun e w' => e = .returned (.float .f64 (backN c)) ∧ w = w' := by
  have hf := frombits_nat
  have hand := and_sign c hc
  have hnot := andNot_rung c hc
  obtain ⟨y, HY⟩ : ∃ y, Hid (bitsOf c = y) := ⟨_, rfl⟩
  by_cases hs : 9223372036854775808 ≤ c
  · rw [if_pos (sg_high hs hc)] at hand
    rw [rung_high hs hc, show c - 9223372036854775808 = y from by rw [← HY.out]; unfold bitsOf; rw [if_pos hs]] at hnot
    clear hs
    by_cases hn : nanB y = true
    · have HE : Hid (backN c = 9221120237041090561) := Lib.hid (by unfold backN; rw [HY.out, if_pos hn]; rfl)
      have Hn := Lib.hid (isNaN_any y)
      rw [hn] at Hn
      clear hn
      go_enter Tryd.func34, Tryd.ntmps34
      go_wp2_with (first | (go_at_call 35; refine (Hn.out _).mono ?_; rintro e w' ⟨rfl, rfl⟩) | (go_at_call 37; refine (nan_any _).mono ?_; rintro e w' ⟨rfl, rfl⟩))
      go_ret
      exact ⟨by rw [HE.out]; rfl, rfl⟩
    · have hn' : nanB y = false := by simpa using hn
      have HE : Hid (backN c = y) := Lib.hid (by unfold backN; rw [HY.out, if_neg hn])
      have Hn := Lib.hid (isNaN_any y)
      rw [hn'] at Hn
      clear hn hn'
      go_enter Tryd.func34, Tryd.ntmps34
      go_wp2_with (go_at_call 35; refine (Hn.out _).mono ?_; rintro e w' ⟨rfl, rfl⟩)
      go_ret
      exact ⟨by rw [HE.out]; rfl, rfl⟩
  · rw [if_neg (by rw [sg_low (by omega)]; simp)] at hand
    have hxor := not_xor c hc
    rw [show 18446744073709551615 - c = y from by rw [← HY.out]; unfold bitsOf; rw [if_neg hs]] at hxor
    clear hs
    by_cases hn : nanB y = true
    · have HE : Hid (backN c = 9221120237041090561) := Lib.hid (by unfold backN; rw [HY.out, if_pos hn]; rfl)
      have Hn := Lib.hid (isNaN_any y)
      rw [hn] at Hn
      clear hn
      go_enter Tryd.func34, Tryd.ntmps34
      go_wp2_with (first | (go_at_call 35; refine (Hn.out _).mono ?_; rintro e w' ⟨rfl, rfl⟩) | (go_at_call 37; refine (nan_any _).mono ?_; rintro e w' ⟨rfl, rfl⟩))
      go_ret
      exact ⟨by rw [HE.out]; rfl, rfl⟩
    · have hn' : nanB y = false := by simpa using hn
      have HE : Hid (backN c = y) := Lib.hid (by unfold backN; rw [HY.out, if_neg hn])
      have Hn := Lib.hid (isNaN_any y)
      rw [hn'] at Hn
      clear hn hn'
      go_enter Tryd.func34, Tryd.ntmps34
      go_wp2_with (go_at_call 35; refine (Hn.out _).mono ?_; rintro e w' ⟨rfl, rfl⟩)
      go_ret
      exact ⟨by rw [HE.out]; rfl, rfl⟩

set_option maxHeartbeats 800000 in
theorem refBack_any (c : Nat) (hc : c < 18446744073709551616) (w : World) : Calls Tryd.prog 36 #[.int .u64 (c : Int)] w fun e w' => e = .returned (.tuple #[.int .u64 (bitsOf c : Nat), .bool (!nanB (bitsOf c))]) ∧ w = w' := by
  have hand := and_sign c hc
  have hxor := not_xor c hc
  have hlt := bitsOf_lt hc
  obtain ⟨y, HY⟩ : ∃ y, Hid (bitsOf c = y) := ⟨_, rfl⟩
  rw [HY.out] at hlt ⊢
  by_cases hs : 9223372036854775808 ≤ c
  · have hnot := andNot_rung c hc
    rw [if_pos (sg_high hs hc)] at hand
    rw [rung_high hs hc, show c - 9223372036854775808 = y from by rw [← HY.out]; unfold bitsOf; rw [if_pos hs]] at hnot
    clear hs
    go_enter Tryd.func36, Tryd.ntmps36
    go_wp2_with (go_at_call 38; refine (refNan_any y hlt _).mono ?_; rintro e w' ⟨rfl, rfl⟩)
    go_ret2
    exact ⟨rfl, rfl⟩
  · rw [if_neg (by rw [sg_low (by omega)]; simp)] at hand
    rw [show 18446744073709551615 - c = y from by rw [← HY.out]; unfold bitsOf; rw [if_neg hs]] at hxor
    clear hs
    go_enter Tryd.func36, Tryd.ntmps36
    go_wp2_with (go_at_call 38; refine (refNan_any y hlt _).mono ?_; rintro e w' ⟨rfl, rfl⟩)
    go_ret2
    exact ⟨rfl, rfl⟩

set_option maxHeartbeats 400000 in
theorem refCmp_any (a b : Nat) (ha : a < 18446744073709551616) (hb : b < 18446744073709551616) (w : World) :
    Calls Tryd.prog 21 #[.float .f64 a, .float .f64 b] w fun e w' => e = .returned (.int .i64 (cmpN (code a) (code b))) ∧ w = w' := by
  have c1 := Lib.hid (refCode_any a ha)
  have c2 := Lib.hid (refCode_any b hb)
  generalize code a = x at c1 ⊢
  generalize code b = y at c2 ⊢
  rcases Nat.lt_trichotomy x y with h | h | h
  · have e : Hid (cmpN x y = -1) := Lib.hid (by unfold cmpN; rw [if_pos h])
    have d1 : decide (x < y) = true := decide_eq_true h
    clear h
    go_enter Tryd.func21, Tryd.ntmps21
    go_wp2_with fail
    refine (c1.out _).mono ?_
    rintro e w' ⟨rfl, rfl⟩
    go_wp2_with fail
    refine (c2.out _).mono ?_
    rintro e w' ⟨rfl, rfl⟩
    go_wp2
    go_ret
    exact ⟨by rw [e.out]; rfl, rfl⟩
  · subst h
    have e : Hid (cmpN x x = 0) := Lib.hid (by unfold cmpN; rw [if_neg (by omega), if_neg (by omega)])
    have d1 : decide (x < x) = false := decide_eq_false (by omega)
    go_enter Tryd.func21, Tryd.ntmps21
    go_wp2_with fail
    refine (c1.out _).mono ?_
    rintro e w' ⟨rfl, rfl⟩
    go_wp2_with fail
    refine (c2.out _).mono ?_
    rintro e w' ⟨rfl, rfl⟩
    go_wp2
    go_ret
    exact ⟨by rw [e.out]; rfl, rfl⟩
  · have e : Hid (cmpN x y = 1) := Lib.hid (by unfold cmpN; rw [if_neg (by omega), if_pos h])
    have d1 : decide (x < y) = false := decide_eq_false (by omega)
    have d2 : decide (y < x) = true := decide_eq_true h
    clear h
    go_enter Tryd.func21, Tryd.ntmps21
    go_wp2_with fail
    refine (c1.out _).mono ?_
    rintro e w' ⟨rfl, rfl⟩
    go_wp2_with fail
    refine (c2.out _).mono ?_
    rintro e w' ⟨rfl, rfl⟩
    go_wp2
    go_ret
    exact ⟨by rw [e.out]; rfl, rfl⟩

set_option maxHeartbeats 400000 in
theorem sameBits_eq (a : Nat) (w : World) : Calls Tryd.prog 24 #[.float .f64 a, .float .f64 a] w fun e w' => e = .returned (.bool true) ∧ w = w' := by
  have hbits := bits_any a
  go_enter Tryd.func24, Tryd.ntmps24
  go_wp2
  go_ret
  exact ⟨rfl, rfl⟩

set_option maxHeartbeats 400000 in
theorem sameBits_nans (a b : Nat) (ha : a < 18446744073709551616) (hb : b < 18446744073709551616) (na : nanB a = true) (nb : nanB b = true) (hab : a ≠ b) (w : World) :
    Calls Tryd.prog 24 #[.float .f64 a, .float .f64 b] w fun e w' => e = .returned (.bool true) ∧ w = w' := by
  have hbits := bits_any
  have hne : ((a : Int) == (b : Int)) = false := by simp; omega
  clear hab
  go_enter Tryd.func24, Tryd.ntmps24
  go_wp2_with fail
  refine (nan16_any a ha _).mono ?_
  rintro e w' ⟨rfl, rfl⟩
  go_wp2_with fail
  refine (nan16_any b hb _).mono ?_
  rintro e w' ⟨rfl, rfl⟩
  go_wp2_with fail
  go_ret
  exact ⟨rfl, rfl⟩

/-- a number and what its code is read as -/
theorem sameBits_back (b : Nat) (hb : b < 18446744073709551616) (w : World) :
    (Calls Tryd.prog 24 #[.float .f64 (if nanB b = true then noneBits else b), .float .f64 b] w fun e w' => e = .returned (.bool true) ∧ w = w') ∧
    (Calls Tryd.prog 24 #[.float .f64 b, .float .f64 (if nanB b = true then noneBits else b)] w fun e w' => e = .returned (.bool true) ∧ w = w') := by
  by_cases hn : nanB b = true
  · rw [if_pos hn]
    by_cases he : b = noneBits
    · subst he; exact ⟨sameBits_eq _ w, sameBits_eq _ w⟩
    · exact ⟨sameBits_nans _ _ (by unfold noneBits; omega) hb none_nan hn (Ne.symm he) w, sameBits_nans _ _ hb (by unfold noneBits; omega) hn none_nan he w⟩
  · rw [if_neg hn]
    exact ⟨sameBits_eq _ w, sameBits_eq _ w⟩
end Go.Proofs.YtiajmjmneodfaaaDoor
