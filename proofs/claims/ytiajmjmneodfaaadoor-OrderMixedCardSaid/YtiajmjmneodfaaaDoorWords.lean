/- Eight bytes as a word, and back; how numbers stand by their words, and numbers read out of their words. Plain Lean. No condition beside that words are below 2^64. -/
import Derived.Test.YtiajmjmneodfaaaDoorScore
import Derived.Test.YtiajmjmneodfaaaDoorChain
namespace Go.Proofs.YtiajmjmneodfaaaDoor
open Go Fl

/-- the word of bytes, the greatest first -/
def wordL : List UInt8 → Nat
  | [] => 0
  | b :: r => b.toNat * 256 ^ r.length + wordL r

theorem wordL_lt : ∀ l : List UInt8, wordL l < 256 ^ l.length
  | [] => by decide
  | b :: r => by
    have h := wordL_lt r
    have h2 := b.toNat_lt
    rw [wordL, List.length_cons, Nat.pow_succ]
    have h3 : b.toNat * 256 ^ r.length ≤ 255 * 256 ^ r.length := Nat.mul_le_mul_right _ (by omega)
    omega

theorem wordL_snoc (l : List UInt8) (b : UInt8) : wordL (l ++ [b]) = wordL l * 256 + b.toNat := by
  induction l with
  | nil => simp [wordL]
  | cons a l ih =>
    rw [List.cons_append, wordL, wordL, ih]
    simp only [List.length_append, List.length_cons, List.length_nil]
    rw [Nat.zero_add, Nat.pow_succ, Nat.add_mul, Nat.mul_assoc, Nat.add_assoc]

theorem less_word : ∀ x y : List UInt8, x.length = y.length → Op.bytesLess x y = decide (wordL x < wordL y)
  | [], [], _ => rfl
  | [], _ :: _, h => by simp at h
  | _ :: _, [], h => by simp at h
  | a :: x, b :: y, h => by
    have hl : x.length = y.length := by simpa using h
    rw [less_cons, less_word x y hl, wordL, wordL, hl]
    have h1 := wordL_lt x
    have h2 := wordL_lt y
    rw [hl] at h1
    generalize 256 ^ y.length = P at *
    rcases Nat.lt_trichotomy a.toNat b.toNat with hc | hc | hc
    · have e : a < b := by rw [UInt8.lt_iff_toNat_lt]; exact hc
      have h3 : (a.toNat + 1) * P ≤ b.toNat * P := Nat.mul_le_mul_right _ hc
      rw [Nat.add_mul, Nat.one_mul] at h3
      rw [decide_eq_true e, decide_eq_true (by omega : a.toNat * P + wordL x < b.toNat * P + wordL y)]; rfl
    · obtain rfl : a = b := UInt8.toNat.inj hc
      simp [UInt8.lt_irrefl]
    · have e : ¬ a < b := by rw [UInt8.lt_iff_toNat_lt]; omega
      have e2 : (a == b) = false := by simp; intro e; subst e; exact absurd hc (Nat.lt_irrefl _)
      have h3 : (b.toNat + 1) * P ≤ a.toNat * P := Nat.mul_le_mul_right _ hc
      rw [Nat.add_mul, Nat.one_mul] at h3
      rw [decide_eq_false e, e2, decide_eq_false (by omega : ¬ a.toNat * P + wordL x < b.toNat * P + wordL y)]; rfl

/-- behind beginnings of one length -/
theorem less_behind : ∀ x y m n : List UInt8, x.length = y.length → Op.bytesLess (x ++ m) (y ++ n) = if x = y then Op.bytesLess m n else Op.bytesLess x y
  | [], [], _, _, _ => by simp
  | [], _ :: _, _, _, h => by simp at h
  | _ :: _, [], _, _, h => by simp at h
  | a :: x, b :: y, m, n, h => by
    have hl : x.length = y.length := by simpa using h
    rw [List.cons_append, List.cons_append, less_cons, less_cons, less_behind x y m n hl]
    by_cases hab : a = b
    · subst hab
      by_cases hxy : x = y
      · subst hxy; simp [UInt8.lt_irrefl]
      · simp [UInt8.lt_irrefl, hxy]
    · have e2 : (a == b) = false := by simpa using hab
      have e3 : ¬ (a :: x = b :: y) := fun e => hab (List.cons.inj e).1
      rw [e2, if_neg e3]; simp

theorem code8_len (n : Nat) : (code8 n).length = 8 := rfl
theorem code8_word (n : Nat) (h : n < 18446744073709551616) : wordL (code8 n) = n := by
  unfold code8
  simp only [wordL, List.length_cons, List.length_nil, UInt8.toNat_ofNat']
  omega
theorem code8_less (m n : Nat) (hm : m < 18446744073709551616) (hn : n < 18446744073709551616) : Op.bytesLess (code8 m) (code8 n) = decide (m < n) := by
  rw [less_word (code8 m) (code8 n) rfl, code8_word m hm, code8_word n hn]
theorem code8_eq (m n : Nat) (hm : m < 18446744073709551616) (hn : n < 18446744073709551616) : (code8 m == code8 n) = decide (m = n) := by
  by_cases h : m = n
  · subst h; simp
  · rw [decide_eq_false h]
    simp
    intro e
    have := congrArg wordL e
    rw [code8_word m hm, code8_word n hn] at this
    exact h this

/-- the bits that a word stands for -/
def bitsOf (c : Nat) : Nat := if 9223372036854775808 ≤ c then c - 9223372036854775808 else 18446744073709551615 - c
/-- the number that none is -/
def noneBits : Nat := 9221120237041090561
theorem none_nan : nanB noneBits = true := by decide

theorem bitsOf_code {b : Nat} (hb : b < 18446744073709551616) (hn : nanB b = false) : bitsOf (code b) = b := by
  by_cases hs : sg b = true
  · rw [code_neg hn hs]
    have : 9223372036854775808 ≤ b := by unfold sg at hs; simp at hs; omega
    unfold bitsOf
    rw [if_neg (by omega)]; omega
  · have hs' : sg b = false := by simpa using hs
    rw [code_pos hn hs']
    unfold bitsOf
    rw [if_pos (by omega)]; omega
theorem bitsOf_lt {c : Nat} (h : c < 18446744073709551616) : bitsOf c < 18446744073709551616 := by
  unfold bitsOf
  split <;> omega

/-- the number whose code comes first: its bits, what is behind, the error's number -/
def takeS (l : List UInt8) : Nat × List UInt8 × Nat :=
  if l.length < 8 then (0, [], 4)
  else if nanB (bitsOf (wordL (l.take 8))) = true then (if wordL (l.take 8) = 18446744073709551615 then (noneBits, l.drop 8, 0) else (0, [], 3))
  else (bitsOf (wordL (l.take 8)), l.drop 8, 0)

theorem takeS_short {l : List UInt8} (h : l.length < 8) : takeS l = (0, [], 4) := by unfold takeS; rw [if_pos h]
theorem takeS_none {l : List UInt8} (h : ¬ l.length < 8) (h2 : nanB (bitsOf (wordL (l.take 8))) = true) (h3 : wordL (l.take 8) = 18446744073709551615) : takeS l = (noneBits, l.drop 8, 0) := by
  unfold takeS; rw [if_neg h, if_pos h2, if_pos h3]
theorem takeS_form {l : List UInt8} (h : ¬ l.length < 8) (h2 : nanB (bitsOf (wordL (l.take 8))) = true) (h3 : wordL (l.take 8) ≠ 18446744073709551615) : takeS l = (0, [], 3) := by
  unfold takeS; rw [if_neg h, if_pos h2, if_neg h3]
theorem takeS_ok {l : List UInt8} (h : ¬ l.length < 8) (h2 : nanB (bitsOf (wordL (l.take 8))) = false) : takeS l = (bitsOf (wordL (l.take 8)), l.drop 8, 0) := by
  unfold takeS; rw [if_neg h, if_neg (by rw [h2]; simp)]

theorem takeS_lt (l : List UInt8) : (takeS l).1 < 18446744073709551616 := by
  unfold takeS
  have h := wordL_lt (l.take 8)
  split
  · decide
  · have h8 : (l.take 8).length = 8 := by simp; omega
    rw [h8] at h
    split
    · split
      · show (9221120237041090561 : Nat) < 18446744073709551616
        decide
      · decide
    · exact bitsOf_lt (by omega)

/-- a number's code is read as that number, or as none -/
theorem takeS_code (b : Nat) (hb : b < 18446744073709551616) (r : List UInt8) : takeS (code8 (code b) ++ r) = (if nanB b = true then noneBits else b, r, 0) := by
  have hl : ¬ (code8 (code b) ++ r).length < 8 := by simp [code8_len]
  have ht : (code8 (code b) ++ r).take 8 = code8 (code b) := List.take_left' rfl
  have hd : (code8 (code b) ++ r).drop 8 = r := List.drop_left' rfl
  have hw := code8_word (code b) (code_lt hb)
  by_cases hn : nanB b = true
  · rw [if_pos hn]
    have hc := code_nan hn
    rw [takeS_none hl (by rw [ht, hw, hc]; decide) (by rw [ht, hw, hc]), hd]
  · have hn' : nanB b = false := by simpa using hn
    rw [if_neg hn, takeS_ok hl (by rw [ht, hw, bitsOf_code hb hn']; exact hn'), hd, ht, hw, bitsOf_code hb hn']
end Go.Proofs.YtiajmjmneodfaaaDoor
