/- A text's code: each nought followed by 255, and nought and one behind; what the library's ReplaceAll makes of it. Plain Lean. No condition. -/
import Derived.Test.YtiajmjmneodfaaaDoorBytes
import Derived.Lib.ReplaceLaws
import Derived.Lib.Replace
namespace Go.Proofs.YtiajmjmneodfaaaDoor
open Go

/-- each nought followed by 255 -/
def esc : List UInt8 → List UInt8
  | [] => []
  | b :: r => if b = 0 then 0 :: 255 :: esc r else b :: esc r
/-- a text's code -/
def textL (l : List UInt8) : List UInt8 := esc l ++ [0, 1]

theorem esc_zero (r : List UInt8) : esc (0 :: r) = 0 :: 255 :: esc r := by rw [esc, if_pos rfl]
theorem esc_other {b : UInt8} (h : b ≠ 0) (r : List UInt8) : esc (b :: r) = b :: esc r := by rw [esc, if_neg h]

theorem esc_len (l : List UInt8) : (esc l).length ≤ 2 * l.length := by
  induction l with
  | nil => exact Nat.le_refl _
  | cons b r ih =>
    by_cases h : b = 0
    · subst h; rw [esc_zero]; simp; omega
    · rw [esc_other h]; simp; omega

theorem index_cons_ne {b : UInt8} (h : b ≠ 0) (l : List UInt8) (i : Nat) (hi : Lib.index l [0] = i) : Lib.index (b :: l) [0] = ((i + 1 : Nat) : Int) := by
  rw [Lib.index]
  have h1 : ([0] : List UInt8).isPrefixOf (b :: l) = false := by simp [List.isPrefixOf, Ne.symm h]
  rw [h1, hi]
  simp

theorem replaceK_esc : ∀ l : List UInt8, Lib.replaceK [0] [0, 255] (Lib.count l [0]) l = esc l
  | [] => rfl
  | b :: r => by
    have ih := replaceK_esc r
    by_cases h : b = 0
    · subst h
      have h0 : Lib.index (0 :: r) [0] = ((0 : Nat) : Int) := by rw [Lib.index]; simp [List.isPrefixOf]
      rw [Lib.count_cons_eq, Nat.add_comm, Lib.replaceK_hit _ _ _ _ 0 h0, esc_zero, ← ih]
      rfl
    · rw [Lib.count_cons_ne b 0 r h, esc_other h]
      rcases hc : Lib.count r [0] with _ | k
      · rw [hc] at ih
        rw [← ih]; rfl
      · obtain ⟨i, hi⟩ := Lib.index_of_count (s := r) (old := [0]) (by omega)
        rw [hc, Lib.replaceK_hit _ _ _ _ i hi] at ih
        rw [Lib.replaceK_hit _ _ _ _ (i + 1) (index_cons_ne h r i hi), ← ih]
        simp [Nat.add_comm, Nat.add_left_comm]

theorem replaceAll_esc (l : List UInt8) : Lib.replaceAll l [0] [0, 255] = esc l := by
  unfold Lib.replaceAll Lib.replace Lib.replaceNum
  rw [if_neg (by simp), if_pos (Or.inl (by omega))]
  exact replaceK_esc l

end Go.Proofs.YtiajmjmneodfaaaDoor
