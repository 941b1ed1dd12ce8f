/- Codes stand as their texts do, whatever follows; chains of codes stand as the lists of their texts do. Plain Lean. No condition. -/
import Derived.Test.YtiajmjmneodfaaaDoorTakeL
namespace Go.Proofs.YtiajmjmneodfaaaDoor
open Go

theorem u8_pos {b : UInt8} (h : b ≠ 0) : (0 : UInt8) < b := by
  rw [UInt8.lt_iff_toNat_lt]
  have h2 : b.toNat ≠ 0 := fun e => h (UInt8.toNat.inj e)
  have h3 : (0 : UInt8).toNat = 0 := rfl
  omega
theorem u8_not_lt_zero (b : UInt8) : ¬ b < (0 : UInt8) := by
  rw [UInt8.lt_iff_toNat_lt]
  have h3 : (0 : UInt8).toNat = 0 := rfl
  omega

theorem textL_nil : textL [] = [0, 1] := rfl
theorem textL_zero (l : List UInt8) : textL (0 :: l) = 0 :: 255 :: textL l := by unfold textL; rw [esc_zero]; rfl
theorem textL_other {b : UInt8} (h : b ≠ 0) (l : List UInt8) : textL (b :: l) = b :: textL l := by unfold textL; rw [esc_other h]; rfl
theorem textL_len (l : List UInt8) : (textL l).length ≤ 2 * l.length + 2 := by
  have := esc_len l
  unfold textL
  simp; omega
theorem textL_ne (l u : List UInt8) : ∃ b r, textL l ++ u = b :: r := by
  cases l with
  | nil => exact ⟨0, 1 :: u, rfl⟩
  | cons b l =>
    by_cases h : b = 0
    · subst h; rw [textL_zero]; exact ⟨_, _, rfl⟩
    · rw [textL_other h]; exact ⟨_, _, rfl⟩

theorem less_same (a : UInt8) (x y : List UInt8) : Op.bytesLess (a :: x) (a :: y) = Op.bytesLess x y := by
  rw [less_cons]; simp [UInt8.lt_irrefl]

/-- codes stand as the texts do, whatever follows -/
theorem text_less : ∀ (a b u v : List UInt8), a ≠ b → Op.bytesLess (textL a ++ u) (textL b ++ v) = Op.bytesLess a b
  | [], [], _, _, h => absurd rfl h
  | [], d :: b, u, v, _ => by
    rw [textL_nil]
    by_cases hd : d = 0
    · subst hd
      rw [textL_zero]
      show Op.bytesLess (0 :: 1 :: u) (0 :: 255 :: (textL b ++ v)) = true
      rw [less_same, less_cons]
      simp
    · rw [textL_other hd]
      show Op.bytesLess (0 :: 1 :: u) (d :: (textL b ++ v)) = true
      rw [less_cons, decide_eq_true (u8_pos hd)]; rfl
  | c :: a, [], u, v, _ => by
    rw [textL_nil, less_nil]
    by_cases hc : c = 0
    · subst hc
      rw [textL_zero]
      show Op.bytesLess (0 :: 255 :: (textL a ++ u)) (0 :: 1 :: v) = false
      rw [less_same, less_cons]
      simp
    · rw [textL_other hc]
      show Op.bytesLess (c :: (textL a ++ u)) (0 :: 1 :: v) = false
      rw [less_cons, decide_eq_false (u8_not_lt_zero c)]
      simp [hc]
  | c :: a, d :: b, u, v, h => by
    rw [less_cons]
    by_cases hcd : c = d
    · subst hcd
      have h2 : a ≠ b := fun e => h (by rw [e])
      by_cases hc : c = 0
      · subst hc
        rw [textL_zero, textL_zero]
        show Op.bytesLess (0 :: 255 :: (textL a ++ u)) (0 :: 255 :: (textL b ++ v)) = _
        rw [less_same, less_same, text_less a b u v h2]; simp
      · rw [textL_other hc, textL_other hc]
        show Op.bytesLess (c :: (textL a ++ u)) (c :: (textL b ++ v)) = _
        rw [less_same, text_less a b u v h2]; simp [UInt8.lt_irrefl]
    · have e1 : (c == d) = false := by simpa using hcd
      rw [e1, Bool.false_and, Bool.or_false]
      by_cases hc : c = 0
      · subst hc
        have hd : d ≠ 0 := fun e => hcd e.symm
        rw [textL_zero, textL_other hd]
        show Op.bytesLess (0 :: 255 :: (textL a ++ u)) (d :: (textL b ++ v)) = _
        have e2 : ((0 : UInt8) == d) = false := by simpa using hcd
        rw [less_cons, e2]; simp
      · rw [textL_other hc]
        by_cases hd : d = 0
        · subst hd
          rw [textL_zero]
          show Op.bytesLess (c :: (textL a ++ u)) (0 :: 255 :: (textL b ++ v)) = _
          rw [less_cons, e1]; simp
        · rw [textL_other hd]
          show Op.bytesLess (c :: (textL a ++ u)) (d :: (textL b ++ v)) = _
          rw [less_cons, e1]; simp

theorem less_total : ∀ {x y : List UInt8}, x ≠ y → Op.bytesLess x y = false → Op.bytesLess y x = true
  | [], [], h, _ => absurd rfl h
  | [], _ :: _, _, h2 => by cases h2
  | _ :: _, [], _, _ => rfl
  | a :: x, b :: y, h, h2 => by
    rw [less_cons] at h2 ⊢
    simp only [Bool.or_eq_false_iff, decide_eq_false_iff_not] at h2
    by_cases hab : a = b
    · subst hab
      have h3 : x ≠ y := fun e => h (by rw [e])
      have h4 := h2.2
      simp only [beq_self_eq_true, Bool.true_and] at h4
      rw [less_total h3 h4]; simp
    · have h5 : b < a := by
        have := h2.1
        rw [UInt8.lt_iff_toNat_lt] at this ⊢
        have h6 : a.toNat ≠ b.toNat := fun e => hab (UInt8.toNat.inj e)
        omega
      rw [decide_eq_true h5]; rfl

/-- the codes of texts, each behind the other -/
def chainL : List (List UInt8) → List UInt8
  | [] => []
  | x :: xs => textL x ++ chainL xs

theorem chainL_append : ∀ xs ys : List (List UInt8), chainL (xs ++ ys) = chainL xs ++ chainL ys
  | [], _ => rfl
  | x :: xs, ys => by rw [List.cons_append, chainL, chainL, chainL_append xs ys, List.append_assoc]

/-- how lists of texts stand -/
def cmpL : List (List UInt8) → List (List UInt8) → Int
  | [], [] => 0
  | [], _ :: _ => -1
  | _ :: _, [] => 1
  | x :: xs, y :: ys => if Op.bytesLess x y = true then -1 else if Op.bytesLess y x = true then 1 else cmpL xs ys

theorem cmpL_less {x y : List UInt8} (h : Op.bytesLess x y = true) (xs ys : List (List UInt8)) : cmpL (x :: xs) (y :: ys) = -1 := by rw [cmpL, if_pos h]
theorem cmpL_more {x y : List UInt8} (h : Op.bytesLess y x = true) (xs ys : List (List UInt8)) : cmpL (x :: xs) (y :: ys) = 1 := by
  rw [cmpL, if_neg (by rw [less_asym h]; simp), if_pos h]
theorem cmpL_same (x : List UInt8) (xs ys : List (List UInt8)) : cmpL (x :: xs) (x :: ys) = cmpL xs ys := by
  rw [cmpL, if_neg (by rw [less_self]; simp), if_neg (by rw [less_self]; simp)]

/-- chains stand as the lists do -/
theorem chain_cmp : ∀ xs ys : List (List UInt8),
    (cmpL xs ys = -1 ∧ Op.bytesLess (chainL xs) (chainL ys) = true ∧ (chainL xs == chainL ys) = false) ∨
    (cmpL xs ys = 0 ∧ Op.bytesLess (chainL xs) (chainL ys) = false ∧ (chainL xs == chainL ys) = true) ∨
    (cmpL xs ys = 1 ∧ Op.bytesLess (chainL xs) (chainL ys) = false ∧ (chainL xs == chainL ys) = false)
  | [], [] => .inr (.inl ⟨rfl, rfl, rfl⟩)
  | [], y :: ys => by
    obtain ⟨b, r, e⟩ := textL_ne y (chainL ys)
    refine .inl ⟨rfl, ?_, ?_⟩
    · rw [chainL, chainL, e]; rfl
    · rw [chainL, chainL, e]; rfl
  | x :: xs, [] => by
    obtain ⟨b, r, e⟩ := textL_ne x (chainL xs)
    refine .inr (.inr ⟨rfl, ?_, ?_⟩)
    · rw [chainL, chainL, e]; rfl
    · rw [chainL, chainL, e]; rfl
  | x :: xs, y :: ys => by
    by_cases h : x = y
    · subst h
      rw [cmpL_same, chainL, chainL, less_app]
      have e : (textL x ++ chainL xs == textL x ++ chainL ys) = (chainL xs == chainL ys) := by
        rw [Bool.eq_iff_iff]; simp
      rw [e]
      exact chain_cmp xs ys
    · have ht := text_less x y (chainL xs) (chainL ys) h
      have ht2 := text_less y x (chainL ys) (chainL xs) (Ne.symm h)
      by_cases h1 : Op.bytesLess x y = true
      · refine .inl ⟨cmpL_less h1 _ _, ?_, ?_⟩
        · rw [chainL, chainL, ht, h1]
        · rw [h1] at ht
          have := less_ne ht
          rw [chainL, chainL]
          rw [Bool.eq_false_iff] at this ⊢
          intro e; apply this; simp at e ⊢; exact e.symm
      · have h2 : Op.bytesLess y x = true := less_total h (by simpa using h1)
        refine .inr (.inr ⟨cmpL_more h2 _ _, ?_, ?_⟩)
        · rw [chainL, chainL, ht]; simpa using h1
        · rw [h2] at ht2
          exact less_ne ht2

theorem chain_zero {xs ys : List (List UInt8)} (h : cmpL xs ys = 0) : Op.bytesLess (chainL xs) (chainL ys) = false ∧ (chainL xs == chainL ys) = true := by
  rcases chain_cmp xs ys with ⟨h1, h2⟩ | ⟨h1, h2⟩ | ⟨h1, h2⟩
  · omega
  · exact h2
  · omega
theorem chain_less {xs ys : List (List UInt8)} (h : cmpL xs ys = -1) : Op.bytesLess (chainL xs) (chainL ys) = true ∧ (chainL xs == chainL ys) = false := by
  rcases chain_cmp xs ys with ⟨h1, h2⟩ | ⟨h1, h2⟩ | ⟨h1, h2⟩
  · exact h2
  · omega
  · omega
theorem chain_more {xs ys : List (List UInt8)} (h : cmpL xs ys = 1) : Op.bytesLess (chainL xs) (chainL ys) = false ∧ (chainL xs == chainL ys) = false := by
  rcases chain_cmp xs ys with ⟨h1, h2⟩ | ⟨h1, h2⟩ | ⟨h1, h2⟩
  · omega
  · omega
  · exact h2
end Go.Proofs.YtiajmjmneodfaaaDoor
