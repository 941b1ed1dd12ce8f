/- The small functions on floats of the packages num, math and of the references: what each call hands back, as a function of the bits. No condition beside that bits are below 2^64. -/
import Derived.Test.YtiajmjmneodfaaaDoorProg
import Derived.Test.YtiajmjmneodfaaaDoorFl
import Derived.WalkKit
import Derived.WalkSpells
import Derived.WalkLawsBesides
import Derived.Laws.BitsAllLaws
import Derived.Laws.FloatArith
import Derived.Lib.Hide
import Derived.Outline
import Derived.RegionTactic
import Derived.BigRegion
import Derived.Deep.QuietTactic
import Derived.BigQuiet
namespace Go.Proofs.YtiajmjmneodfaaaDoor
open Go.RowKit Fl
/-- A NaN's bits. -/
def nanB (b : Nat) : Bool := decide (INF < rung b)
theorem nanB_true {b : Nat} (h : INF < rung b) : nanB b = true := by unfold nanB; simpa using h
theorem nanB_false {b : Nat} (h : rung b ≤ INF) : nanB b = false := by unfold nanB; simpa using h
theorem of_nanB_true {b : Nat} (h : nanB b = true) : INF < rung b := by unfold nanB at h; simpa using h
theorem of_nanB_false {b : Nat} (h : nanB b = false) : rung b ≤ INF := by unfold nanB at h; simpa using h

theorem neq_self (b : Nat) : (FloatKind.f64.format.order b b != some .eq) = nanB b := by
  by_cases h : rung b ≤ INF
  · have h1 : FloatKind.f64.format.order b b = some .eq := order_self.2 h
    rw [h1, nanB_false h]; rfl
  · have h1 : FloatKind.f64.format.order b b = none := order_nan_left (by omega) b
    rw [h1, nanB_true (by omega)]; rfl

theorem bits_any (b : Nat) (w : World) : (callFunc 27 #[.float .f64 b]).run Tryd.prog w = .ok (.value (.int .u64 b)) w := by kernel_rfl
theorem frombits_any (n : Int) (w : World) : (callFunc 17 #[.int .u64 n]).run Tryd.prog w = .ok (.value (.float .f64 n.toNat)) w := by kernel_rfl

set_option maxHeartbeats 400000 in
theorem isNaN_any (b : Nat) (w : World) : Calls Tryd.prog 35 #[.float .f64 b] w fun e w' => e = .returned (.bool (nanB b)) ∧ w = w' := by
  have hn := neq_self b
  go_enter Tryd.func35, Tryd.ntmps35
  go_wp2
  go_ret
  exact ⟨rfl, rfl⟩

/-- The word by which a number stands among others. -/
def code (b : Nat) : Nat := if nanB b = true then 18446744073709551615 else if sg b = true then 18446744073709551615 - b else b + 9223372036854775808

theorem code_nan {b : Nat} (h : nanB b = true) : code b = 18446744073709551615 := by unfold code; rw [if_pos h]
theorem code_neg {b : Nat} (h : nanB b = false) (hs : sg b = true) : code b = 18446744073709551615 - b := by unfold code; rw [if_neg (by simp [h]), if_pos hs]
theorem code_pos {b : Nat} (h : nanB b = false) (hs : sg b = false) : code b = b + 9223372036854775808 := by unfold code; rw [if_neg (by simp [h]), if_neg (by simp [hs])]
theorem code_lt {b : Nat} (hb : b < 18446744073709551616) : code b < 18446744073709551616 := by
  unfold code
  by_cases h : nanB b = true
  · rw [if_pos h]; omega
  · rw [if_neg h]
    by_cases hs : sg b = true
    · rw [if_pos hs]; omega
    · rw [if_neg hs]
      have : b < 9223372036854775808 := by
        unfold sg at hs
        simp at hs; omega
      omega

theorem and_sign (b : Nat) (hb : b < 18446744073709551616) : bits .and .u64 (b : Int) 9223372036854775808 = if sg b = true then 9223372036854775808 else 0 := by
  have h := u64_and_nat b 9223372036854775808 hb (by omega)
  have h2 := nat_bit 63 b
  have e : (2 : Nat) ^ 63 = 9223372036854775808 := by decide
  rw [e] at h2
  rw [h2] at h
  rw [show ((9223372036854775808 : Nat) : Int) = 9223372036854775808 from rfl] at h
  rw [h]
  unfold sg
  rw [e]
  by_cases hs : b / 9223372036854775808 % 2 = 1
  · rw [hs, if_pos (by decide)]; rfl
  · rw [if_neg (by simpa using hs)]
    have : b / 9223372036854775808 % 2 = 0 := by omega
    rw [this]; rfl

theorem or_sign (b : Nat) (hb : b < 18446744073709551616) (hs : sg b = false) : bits .or .u64 (b : Int) 9223372036854775808 = ((b + 9223372036854775808 : Nat) : Int) := by
  have h := u64_or_nat b 9223372036854775808 hb (by omega)
  rw [show ((9223372036854775808 : Nat) : Int) = 9223372036854775808 from rfl] at h
  rw [h]
  have hlt : b < 2 ^ 63 := by unfold sg at hs; simp at hs; omega
  have := nat_join 63 9223372036854775808 b (by decide) hlt
  rw [Nat.or_comm, this, Nat.add_comm]

theorem not_xor (b : Nat) (hb : b < 18446744073709551616) : bits .xor .u64 IntKind.u64.max (b : Int) = ((18446744073709551615 - b : Nat) : Int) := by
  have h := u64_xor_nat 18446744073709551615 b (by omega) hb
  rw [show IntKind.u64.max = ((18446744073709551615 : Nat) : Int) from by decide, h]
  congr 1
  have e := BitVec.toNat_not (x := BitVec.ofNat 64 b)
  rw [← BitVec.xor_allOnes, BitVec.toNat_xor, BitVec.toNat_allOnes, BitVec.toNat_ofNat, Nat.mod_eq_of_lt (by simpa using hb)] at e
  rw [Nat.xor_comm]
  exact e

set_option maxHeartbeats 400000 in
theorem code_any (b : Nat) (hb : b < 18446744073709551616) (w : World) : Calls Tryd.prog 33 #[.float .f64 b] w fun e w' => e = .returned (.int .u64 (code b)) ∧ w = w' := by
  have hbits := bits_any b
  by_cases hn : nanB b = true
  · have e := Lib.hid (code_nan hn)
    go_enter Tryd.func33, Tryd.ntmps33
    go_wp2_with (go_at_call 35; refine (isNaN_any _ _).mono ?_; rintro e w' ⟨rfl, rfl⟩)
    go_ret
    exact ⟨by rw [e.out]; rfl, rfl⟩
  · have hn' : nanB b = false := by simpa using hn
    clear hn
    by_cases hs : sg b = true
    · have e := Lib.hid (code_neg hn' hs)
      have ha := and_sign b hb
      rw [if_pos hs] at ha
      have hx := not_xor b hb
      go_enter Tryd.func33, Tryd.ntmps33
      go_wp2_with (go_at_call 35; refine (isNaN_any _ _).mono ?_; rintro e w' ⟨rfl, rfl⟩)
      go_ret
      exact ⟨by rw [e.out]; rfl, rfl⟩
    · have hs' : sg b = false := by simpa using hs
      clear hs
      have e := Lib.hid (code_pos hn' hs')
      have ha := and_sign b hb
      rw [if_neg (by simp [hs'])] at ha
      have ho := or_sign b hb hs'
      go_enter Tryd.func33, Tryd.ntmps33
      go_wp2_with (go_at_call 35; refine (isNaN_any _ _).mono ?_; rintro e w' ⟨rfl, rfl⟩)
      go_ret
      exact ⟨by rw [e.out]; rfl, rfl⟩

/-- How two numbers stand: by their words. -/
def cmpN (x y : Nat) : Int := if x < y then -1 else if y < x then 1 else 0

set_option maxHeartbeats 400000 in
theorem isNaN64_any (x : Int) (w : World) : Calls Tryd.prog 43 #[.int .u64 x] w fun e w' => e = .returned (.bool false) ∧ w = w' := by
  go_enter Tryd.func43, Tryd.ntmps43
  go_wp2
  go_ret
  exact ⟨by simp, rfl⟩

set_option maxHeartbeats 400000 in
theorem compare_any (x y : Nat) (w : World) : Calls Tryd.prog 40 #[.int .u64 x, .int .u64 y] w fun e w' => e = .returned (.int .i64 (cmpN x y)) ∧ w = w' := by
  rcases Nat.lt_trichotomy x y with h | h | h
  · have e : Hid (cmpN x y = -1) := Lib.hid (by unfold cmpN; rw [if_pos h])
    have h' : (x : Int) < y := by omega
    go_enter Tryd.func40, Tryd.ntmps40
    go_wp2_with (go_at_call 43; refine (isNaN64_any _ _).mono ?_; rintro e w' ⟨rfl, rfl⟩)
    go_ret
    exact ⟨by rw [e.out]; rfl, rfl⟩
  · subst h
    have e : Hid (cmpN x x = 0) := Lib.hid (by unfold cmpN; rw [if_neg (by omega), if_neg (by omega)])
    go_enter Tryd.func40, Tryd.ntmps40
    go_wp2_with (go_at_call 43; refine (isNaN64_any _ _).mono ?_; rintro e w' ⟨rfl, rfl⟩)
    go_ret
    exact ⟨by rw [e.out]; rfl, rfl⟩
  · have e : Hid (cmpN x y = 1) := Lib.hid (by unfold cmpN; rw [if_neg (by omega), if_pos h])
    have h' : (y : Int) < x := by omega
    have h'' : ¬ (x : Int) < y := by omega
    go_enter Tryd.func40, Tryd.ntmps40
    go_wp2_with (go_at_call 43; refine (isNaN64_any _ _).mono ?_; rintro e w' ⟨rfl, rfl⟩)
    go_ret
    exact ⟨by rw [e.out]; rfl, rfl⟩

set_option maxHeartbeats 400000 in
theorem cmp_any (a b : Nat) (ha : a < 18446744073709551616) (hb : b < 18446744073709551616) (w : World) :
    Calls Tryd.prog 29 #[.float .f64 a, .float .f64 b] w fun e w' => e = .returned (.int .i64 (cmpN (code a) (code b))) ∧ w = w' := by
  go_enter Tryd.func29, Tryd.ntmps29
  go_wp2_with fail
  refine (code_any a ha _).mono ?_
  rintro e w' ⟨rfl, rfl⟩
  go_wp2_with fail
  refine (code_any b hb _).mono ?_
  rintro e w' ⟨rfl, rfl⟩
  go_wp2_with fail
  refine (compare_any _ _ _).mono ?_
  rintro e w' ⟨rfl, rfl⟩
  go_wp2_with fail
  go_ret
  exact ⟨rfl, rfl⟩

theorem and_rung (b : Nat) (hb : b < 18446744073709551616) : bits .and .u64 (b : Int) 9223372036854775807 = (rung b : Nat) := by
  have h := u64_and_nat b 9223372036854775807 hb (by omega)
  rw [show ((9223372036854775807 : Nat) : Int) = 9223372036854775807 from rfl] at h
  rw [h]
  have := Nat.and_two_pow_sub_one_eq_mod b 63
  rw [show (2 : Nat) ^ 63 - 1 = 9223372036854775807 from by decide] at this
  rw [this]; rfl

theorem andNot_rung (b : Nat) (hb : b < 18446744073709551616) : bits .andNot .u64 (b : Int) 9223372036854775808 = (rung b : Nat) := by
  have h := u64_andNot_nat b 9223372036854775808 hb (by omega)
  rw [show ((9223372036854775808 : Nat) : Int) = 9223372036854775808 from rfl] at h
  rw [h]
  have := Nat.and_two_pow_sub_one_eq_mod b 63
  rw [show (2 : Nat) ^ 63 - 1 = 18446744073709551615 - 9223372036854775808 from by decide] at this
  rw [this]; rfl

theorem nanB_int (b : Nat) : decide ((9218868437227405312 : Int) < (rung b : Nat)) = nanB b := by
  unfold nanB INF
  rw [show (2047 * 2 ^ 52 : Nat) = 9218868437227405312 from by decide]
  by_cases h : 9218868437227405312 < rung b
  · rw [decide_eq_true h, decide_eq_true (by omega)]
  · rw [decide_eq_false h, decide_eq_false (by omega)]

set_option maxHeartbeats 400000 in
theorem refNan_any (b : Nat) (hb : b < 18446744073709551616) (w : World) : Calls Tryd.prog 38 #[.int .u64 b] w fun e w' => e = .returned (.bool (nanB b)) ∧ w = w' := by
  have h1 := andNot_rung b hb
  have h2 := nanB_int b
  go_enter Tryd.func38, Tryd.ntmps38
  go_wp2
  go_ret
  exact ⟨rfl, rfl⟩

set_option maxHeartbeats 400000 in
theorem nan16_any (b : Nat) (hb : b < 18446744073709551616) (w : World) : Calls Tryd.prog 39 #[.float .f64 b] w fun e w' => e = .returned (.bool (nanB b)) ∧ w = w' := by
  have h1 := and_rung b hb
  have h2 := nanB_int b
  have hbits := bits_any b
  go_enter Tryd.func39, Tryd.ntmps39
  go_wp2
  go_ret
  exact ⟨rfl, rfl⟩

set_option maxHeartbeats 400000 in
theorem refCode_any (b : Nat) (hb : b < 18446744073709551616) (w : World) : Calls Tryd.prog 23 #[.float .f64 b] w fun e w' => e = .returned (.int .u64 (code b)) ∧ w = w' := by
  have hbits := bits_any b
  by_cases hn : nanB b = true
  · have e := Lib.hid (code_nan hn)
    go_enter Tryd.func23, Tryd.ntmps23
    go_wp2_with (go_at_call 38; refine (refNan_any _ (by assumption) _).mono ?_; rintro e w' ⟨rfl, rfl⟩)
    go_ret
    exact ⟨by rw [e.out]; rfl, rfl⟩
  · have hn' : nanB b = false := by simpa using hn
    clear hn
    by_cases hs : sg b = true
    · have e := Lib.hid (code_neg hn' hs)
      have ha := and_sign b hb
      rw [if_pos hs] at ha
      have hx := not_xor b hb
      go_enter Tryd.func23, Tryd.ntmps23
      go_wp2_with (go_at_call 38; refine (refNan_any _ (by assumption) _).mono ?_; rintro e w' ⟨rfl, rfl⟩)
      go_ret
      exact ⟨by rw [e.out]; rfl, rfl⟩
    · have hs' : sg b = false := by simpa using hs
      clear hs
      have e := Lib.hid (code_pos hn' hs')
      have ha := and_sign b hb
      rw [if_neg (by simp [hs'])] at ha
      have ho := or_sign b hb hs'
      go_enter Tryd.func23, Tryd.ntmps23
      go_wp2_with (go_at_call 38; refine (refNan_any _ (by assumption) _).mono ?_; rintro e w' ⟨rfl, rfl⟩)
      go_ret
      exact ⟨by rw [e.out]; rfl, rfl⟩

end Go.Proofs.YtiajmjmneodfaaaDoor
