/- Mean, products, what is the same: each call's end. -/
import Derived.Test.YtohkjjmknpbdaaaMins
namespace Go.Proofs.Ytohkjjmknpbdaaa
open Go.RowKit Fl

set_option maxHeartbeats 400000 in
theorem same_eq (a : Nat) (w : World) : Calls Try.prog 22 #[.float .f64 a, .float .f64 a] w fun e w' => e = .returned (.bool true) ∧ w = w' := by
  have hbits := bits_any a
  go_enter Try.func22, Try.ntmps22
  go_wp2
  go_ret
  exact ⟨rfl, rfl⟩

set_option maxHeartbeats 400000 in
theorem same_nans (a b : Nat) (ha : a < 18446744073709551616) (hb : b < 18446744073709551616) (na : nanB a = true) (nb : nanB b = true) (hab : a ≠ b) (w : World) :
    Calls Try.prog 22 #[.float .f64 a, .float .f64 b] w fun e w' => e = .returned (.bool true) ∧ w = w' := by
  have hbits := bits_any
  have hne : ((a : Int) == (b : Int)) = false := by simp; omega
  clear hab
  go_enter Try.func22, Try.ntmps22
  go_wp2_with fail
  refine (nan16_any a ha _).mono ?_
  rintro e w' ⟨rfl, rfl⟩
  go_wp2_with fail
  refine (nan16_any b hb _).mono ?_
  rintro e w' ⟨rfl, rfl⟩
  go_wp2_with fail
  go_ret
  exact ⟨rfl, rfl⟩

theorem same_gives {o : Option Nat} {a b : Nat} (ha : Gives o a) (hb : Gives o b) (w : World) : Calls Try.prog 22 #[.float .f64 a, .float .f64 b] w fun e w' => e = .returned (.bool true) ∧ w = w' := by
  by_cases h : a = b
  · subst h; exact same_eq a w
  · cases o with
    | some s => exact absurd ((show a = s from ha.2).trans (show b = s from hb.2).symm) h
    | none => exact same_nans a b ha.1 hb.1 (nanB_true ha.2) (nanB_true hb.2) h w

/-- The mean: the sum divided by how many there are. -/
def meanO (xs : List Nat) : Option Nat := if xs.length = 0 then none else (sumO xs).bind fun s => fOp .quo s (enc (xs.length : Int))

theorem enc_floatOfInt (n : Int) : floatOfInt .f64 n = enc n := rfl

theorem gives_quo {o : Option Nat} {r y : Nat} (h : Gives o r) (w : World) : Gives (o.bind fun s => fOp .quo s y) (fV .quo w r y) := by
  cases o with
  | some s =>
    have e : r = s := h.2
    subst e
    exact gives_f .quo w r y
  | none =>
    have hn : INF < rung r := h.2
    have e : fOp .quo r y = none := div_nan_left hn y
    have := gives_f .quo w r y
    rw [e] at this
    exact this

set_option maxHeartbeats 400000 in
theorem mean_any (v : Value) (xs : List Nat) (w : World) (h : Fsl w v xs) : Calls Try.prog 12 #[v] w (SumEnd (meanO xs) w) := by
  have H := Lib.hid h
  obtain ⟨_, h2, h | h⟩ := h
  · obtain ⟨rfl, a, c, rfl⟩ := h
    go_enter Try.func12, Try.ntmps12
    go_wp2_with (go_at_call 16; refine (nan_any _).mono ?_; rintro e w' ⟨rfl, rfl⟩)
    go_ret
    exact ⟨_, 0, rfl, rfl, gives_nan⟩
  · obtain ⟨hx, b, off, c, rfl, hc⟩ := h
    have hquo := run_f .quo (.inr (.inr rfl))
    have hl : 0 < xs.length := List.length_pos_iff.2 hx
    have hl1 : (((xs.length : Nat) : Int) == 0) = false := by simp; omega
    have hm : Hid (meanO xs = (sumO xs).bind fun s => fOp .quo s (enc (xs.length : Int))) := Lib.hid (by unfold meanO; rw [if_neg (by omega)])
    have hcv := enc_floatOfInt
    clear hc hx
    go_enter Try.func12, Try.ntmps12
    go_wp2_with (go_at_call 10; refine (sum_any _ _ _ H.out).mono ?_; rintro e w' ⟨r, n, rfl, rfl, hg⟩)
    go_ret
    exact ⟨_, _, rfl, rfl, by rw [hm.out]; exact gives_quo hg _⟩

end Go.Proofs.Ytohkjjmknpbdaaa
