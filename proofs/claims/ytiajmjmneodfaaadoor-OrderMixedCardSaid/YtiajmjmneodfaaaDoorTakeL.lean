/- The text whose code comes first, and what is behind: as a function of lists of bytes. Plain Lean. No condition. -/
import Derived.Test.YtiajmjmneodfaaaDoorEsc
namespace Go.Proofs.YtiajmjmneodfaaaDoor
open Go

/-- the text, what is behind, and the error's number -/
def takeG (acc : List UInt8) : List UInt8 → List UInt8 × List UInt8 × Nat
  | [] => ([], [], 4)
  | [_] => ([], [], 4)
  | b :: c :: r => if b = 0 then (if c = 1 then (acc, r, 0) else if c = 255 then takeG (acc ++ [0]) r else ([], [], 3)) else takeG (acc ++ [b]) (c :: r)

theorem takeG_nil (acc : List UInt8) : takeG acc [] = ([], [], 4) := by rw [takeG]
theorem takeG_one (acc : List UInt8) (b : UInt8) : takeG acc [b] = ([], [], 4) := by rw [takeG]
theorem takeG_other (acc : List UInt8) (b : UInt8) (h : b ≠ 0) (r : List UInt8) : takeG acc (b :: r) = takeG (acc ++ [b]) r := by
  cases r with
  | nil => rw [takeG_one, takeG_nil]
  | cons c r => rw [takeG, if_neg h]
theorem takeG_end (acc r : List UInt8) : takeG acc (0 :: 1 :: r) = (acc, r, 0) := by rw [takeG, if_pos rfl, if_pos rfl]
theorem takeG_zero (acc r : List UInt8) : takeG acc (0 :: 255 :: r) = takeG (acc ++ [0]) r := by rw [takeG, if_pos rfl, if_neg (by decide), if_pos rfl]
theorem takeG_form (acc r : List UInt8) (c : UInt8) (h1 : c ≠ 1) (h2 : c ≠ 255) : takeG acc (0 :: c :: r) = ([], [], 3) := by rw [takeG, if_pos rfl, if_neg h1, if_neg h2]

/-- a text's code is read as the text, whatever follows -/
theorem takeG_text : ∀ (l acc r : List UInt8), takeG acc (textL l ++ r) = (acc ++ l, r, 0)
  | [], acc, r => by
    show takeG acc (0 :: 1 :: r) = _
    rw [takeG_end, List.append_nil]
  | b :: l, acc, r => by
    by_cases h : b = 0
    · subst h
      show takeG acc (esc (0 :: l) ++ [0, 1] ++ r) = _
      rw [esc_zero]
      show takeG acc (0 :: 255 :: (textL l ++ r)) = _
      rw [takeG_zero, takeG_text l, List.append_assoc]; rfl
    · show takeG acc (esc (b :: l) ++ [0, 1] ++ r) = _
      rw [esc_other h]
      show takeG acc (b :: (textL l ++ r)) = _
      rw [takeG_other _ _ h, takeG_text l, List.append_assoc]; rfl

theorem takeG_len : ∀ (n : Nat) (l acc : List UInt8), l.length ≤ n → (takeG acc l).2.1.length ≤ l.length ∧ (takeG acc l).1.length ≤ acc.length + l.length := by
  intro n
  induction n with
  | zero =>
    intro l acc h
    obtain rfl : l = [] := List.eq_nil_of_length_eq_zero (by omega)
    rw [takeG_nil]; simp
  | succ n ih =>
    intro l acc h
    cases l with
    | nil => rw [takeG_nil]; simp
    | cons b r =>
      by_cases hb : b = 0
      · subst hb
        cases r with
        | nil => rw [takeG_one]; simp
        | cons c r =>
          by_cases h1 : c = 1
          · subst h1; rw [takeG_end]; simp; omega
          · by_cases h2 : c = 255
            · subst h2
              rw [takeG_zero]
              have := ih r (acc ++ [0]) (by simp at h; omega)
              simp at this ⊢; omega
            · rw [takeG_form _ _ _ h1 h2]; simp
      · rw [takeG_other _ _ hb]
        have := ih r (acc ++ [b]) (by simp at h; omega)
        simp at this ⊢; omega
end Go.Proofs.YtiajmjmneodfaaaDoor
