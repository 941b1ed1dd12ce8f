/- What the document fixes (the law's own 'awake'): true, whatever the world. -/
import Derived.Test.YtohkjjmknpbdaaaFloats
namespace Go.Proofs.Ytohkjjmknpbdaaa
open Go.RowKit Fl

set_option maxHeartbeats 400000 in
theorem signbit_neg (w : World) : Calls Try.prog 18 #[.float .f64 9223372036854775808] w fun e w' => e = .returned (.bool true) ∧ w = w' := by
  have hbits := bits_any
  go_enter Try.func18, Try.ntmps18
  go_wp2
  go_ret
  exact ⟨by kernel_rfl, rfl⟩

set_option maxHeartbeats 400000 in
theorem signbit_zero (w : World) : Calls Try.prog 18 #[.float .f64 0] w fun e w' => e = .returned (.bool false) ∧ w = w' := by
  have hbits := bits_any
  go_enter Try.func18, Try.ntmps18
  go_wp2
  go_ret
  exact ⟨rfl, rfl⟩

set_option maxHeartbeats 400000 in
theorem copysign_zero (w : World) : Calls Try.prog 17 #[.float .f64 0, .float .f64 13830554455654793216] w fun e w' => e = .returned (.float .f64 9223372036854775808) ∧ w = w' := by
  have hbits := bits_any
  have hfb := frombits_any
  go_enter Try.func17, Try.ntmps17
  go_wp2
  go_ret
  exact ⟨by kernel_rfl, rfl⟩

/-- two floats in a new block -/
theorem fsl_two (w : World) (n : Nat) (hn : n = w.heap.size) (a b : Nat) (ha : a < 18446744073709551616) (hb : b < 18446744073709551616) :
    Fsl (w.alloc (.cells #[.float .f64 a, .float .f64 b] 24)) (.slice (some ⟨n, 0, none⟩) 2 2) [a, b] := by
  subst hn
  refine ⟨by intro x hx; simp at hx; omega, by simp, .inr ⟨by simp, w.heap.size, 0, 2, rfl, ?_⟩⟩
  intro i hi
  simp at hi
  match i, hi with
  | 0, _ => simp
  | 1, _ => simp

theorem fsl_one (w : World) (n : Nat) (hn : n = w.heap.size) (a : Nat) (ha : a < 18446744073709551616) :
    Fsl (w.alloc (.cells #[.float .f64 a] 24)) (.slice (some ⟨n, 0, none⟩) 1 1) [a] := by
  subst hn
  refine ⟨by intro x hx; simp at hx; omega, by simp, .inr ⟨by simp, w.heap.size, 0, 1, rfl, ?_⟩⟩
  intro i hi
  simp at hi
  subst hi
  simp

theorem fsl_nil (w : World) : Fsl w (.slice none 0 0) [] := ⟨by simp, by simp, .inl ⟨rfl, _, _, rfl⟩⟩

theorem sum_infs : sumO [9218868437227405312, 18442240474082181120] = none := by decide +kernel
theorem sum_three : sumO [4607182418800017408, 4611686018427387904] = some 4613937818241073152 := by decide +kernel
theorem min_zeros : bestO (-1) posInf [0, 9223372036854775808] = some 9223372036854775808 := by decide +kernel
theorem order_three : FloatKind.f64.format.order 4613937818241073152 4613937818241073152 = some .eq := by decide +kernel

set_option maxHeartbeats 800000 in
theorem awake_any (w : World) : Calls Try.prog 11 #[] w fun e w' => e = .returned (.bool true) ∧ Below w.heap.size w w' := by
  go_enter Try.func11, Try.ntmps11
  go_wp2_with fail
  refine (inf_up _).mono ?_
  rintro e w' ⟨rfl, rfl⟩
  go_wp2_with fail
  refine (inf_down _).mono ?_
  rintro e w' ⟨rfl, rfl⟩
  go_wp2_with fail
  refine (sum_any _ _ _ (fsl_two _ _ rfl _ _ (by decide) (by decide))).mono ?_
  rintro e w' ⟨s, n1, rfl, rfl, hs⟩
  rw [sum_infs] at hs
  have hsn : (FloatKind.f64.format.order s s != some .eq) = true := by rw [neq_self, nanB_true hs.2]
  clear hs
  go_wp2_with fail
  refine (copysign_zero _).mono ?_
  rintro e w' ⟨rfl, rfl⟩
  go_wp2_with fail
  refine (min_any _ _ _ (fsl_two _ _ (by simp) _ _ (by decide) (by decide))).mono ?_
  rintro e w' ⟨m, rfl, rfl, hm⟩
  rw [min_zeros] at hm
  obtain rfl : m = 9223372036854775808 := hm.2
  clear hm
  go_wp2_with fail
  refine (mean_any _ _ _ (fsl_nil _)).mono ?_
  rintro e w' ⟨k, n2, rfl, rfl, hk⟩
  have hkn : (FloatKind.f64.format.order k k != some .eq) = true := by rw [neq_self, nanB_true hk.2]
  clear hk
  go_wp2_with fail
  refine (signbit_neg _).mono ?_
  rintro e w' ⟨rfl, rfl⟩
  go_wp2_with fail
  refine (sum_any _ _ _ (fsl_two _ _ (by simp) _ _ (by decide) (by decide))).mono ?_
  rintro e w' ⟨t, n3, rfl, rfl, ht⟩
  rw [sum_three] at ht
  obtain rfl : t = 4613937818241073152 := ht.2
  clear ht
  have h3 := order_three
  go_wp2
  go_ret
  refine ⟨rfl, ?_⟩
  exact below_drewN (((below_drewN (((below_drewN ((Below.refl _ _).alloc (Nat.le_refl _) _) _).alloc (by simp) _)) _).alloc (by simp; omega) _)) _

end Go.Proofs.Ytohkjjmknpbdaaa
