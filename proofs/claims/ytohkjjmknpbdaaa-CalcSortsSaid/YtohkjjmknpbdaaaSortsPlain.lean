/- The same numbers, each as often: the plain law of CalcSorts. -/
import Derived.Test.YtohkjjmknpbdaaaRanksPlain
namespace Go.Proofs.Ytohkjjmknpbdaaa
open Go.RowKit Fl

/-- how many of a list are the number c -/
def occ (c : Nat) (xs : List Nat) : Nat := xs.countP fun x => decide (code x = c)

theorem occ_snoc (c : Nat) (xs : List Nat) (k : Nat) (h : k < xs.length) : occ c (xs.take (k + 1)) = occ c (xs.take k) + if code (xs.getD k 0) = c then 1 else 0 := by
  unfold occ
  rw [take_snoc' xs k h, List.countP_append]
  simp [List.countP_cons]

theorem occ_perm {xs M : List Nat} (h : M.Perm xs) (c : Nat) : occ c M = occ c xs := h.countP_eq _

theorem occ_le (c : Nat) (xs : List Nat) (k : Nat) : occ c (xs.take k) ≤ k := by
  have := List.countP_le_length (p := fun x => decide (code x = c)) (l := xs.take k)
  rw [List.length_take] at this
  unfold occ
  omega

theorem row_at {w : World} {a : Option Addr} {xs : List Nat} (h : Row w a xs) {i : Nat} (hi : i < xs.length) :
    xs.getD i 0 < 18446744073709551616 ∧ ∃ g, a = some ⟨g, 0, none⟩ ∧ w.cell? ⟨g, i, none⟩ = some (.float .f64 (xs.getD i 0)) := by
  obtain ⟨g, e, _, hc⟩ := h.2.2.2 i hi
  rw [Nat.zero_add] at hc
  refine ⟨?_, g, e, hc⟩
  have e : xs.getD i 0 = xs[i] := by simp [List.getD, hi]
  rw [e]; exact h.2.1 _ (List.getElem_mem hi)

theorem same_quiet {a b : Nat} (ha : a < 18446744073709551616) (hb : b < 18446744073709551616) (w : World) :
    Calls Try.prog 32 #[.float .f64 a, .float .f64 b] w fun e w' => e = .returned (.bool (decide (code a = code b))) ∧ w' = w :=
  (same_any a b ha hb w).mono fun _ _ ⟨h1, h2⟩ => ⟨h1, h2.symm⟩

end Go.Proofs.Ytohkjjmknpbdaaa
