/- Texts as lists of bytes: their order, and the next text above all that begin so. Plain Lean, no program in sight. No condition. -/
import GoSem.Op.String
namespace Go.Proofs.YtiajmjmneodfaaaDoor
open Go

/-- a list of bytes as a text -/
def bs (l : List UInt8) : ByteArray := ⟨l.toArray⟩

theorem less_eq : ∀ (x y : List UInt8), Op.bytesLess x y = decide (x < y)
  | [], [] => by simp [Op.bytesLess]
  | _ :: _, [] => by simp [Op.bytesLess]
  | [], _ :: _ => by simp [Op.bytesLess]
  | a :: x, b :: y => by
    rw [Op.bytesLess, less_eq x y]
    simp only [List.cons_lt_cons_iff]
    by_cases h1 : a < b <;> by_cases h2 : a = b <;> by_cases h3 : x < y <;> simp [h1, h2, h3]

theorem less_nil (x : List UInt8) : Op.bytesLess x [] = false := by cases x <;> rfl
theorem less_cons (a b : UInt8) (x y : List UInt8) : Op.bytesLess (a :: x) (b :: y) = (decide (a < b) || (a == b && Op.bytesLess x y)) := rfl
theorem less_self : ∀ x : List UInt8, Op.bytesLess x x = false
  | [] => rfl
  | a :: x => by rw [less_cons, less_self x]; simp [UInt8.lt_irrefl]

/-- a common beginning does not count -/
theorem less_app : ∀ (p x y : List UInt8), Op.bytesLess (p ++ x) (p ++ y) = Op.bytesLess x y
  | [], _, _ => rfl
  | a :: p, x, y => by
    rw [List.cons_append, List.cons_append, less_cons, less_app p x y]
    simp [UInt8.lt_irrefl]

/-- how many bytes are left when 255s at the end are struck -/
def trimN (l : List UInt8) : Nat → Nat
  | 0 => 0
  | n + 1 => if l.getD n 0 = 255 then trimN l n else n + 1

theorem trimN_le (l : List UInt8) (n : Nat) : trimN l n ≤ n := by
  induction n with
  | zero => exact Nat.le_refl _
  | succ n ih =>
    unfold trimN
    split
    · omega
    · omega
theorem trimN_last (l : List UInt8) (n : Nat) (h : trimN l n ≠ 0) : l.getD (trimN l n - 1) 0 ≠ 255 := by
  induction n with
  | zero => exact absurd rfl h
  | succ n ih =>
    unfold trimN at h ⊢
    split
    · rename_i h2
      rw [if_pos h2] at h
      exact ih h
    · rename_i h2
      exact h2
theorem trimN_behind (l : List UInt8) (n i : Nat) (h1 : trimN l n ≤ i) (h2 : i < n) : l.getD i 0 = 255 := by
  induction n with
  | zero => omega
  | succ n ih =>
    unfold trimN at h1
    split at h1
    · rename_i h3
      by_cases hi : i = n
      · subst hi; exact h3
      · exact ih h1 (by omega)
    · omega
theorem trimN_step (l : List UInt8) (m n : Nat) (h : trimN l (m + 1) = n) (h2 : l.getD m 0 = 255) : trimN l m = n := by
  rw [← h, trimN, if_pos h2]
theorem trimN_stop (l : List UInt8) (m : Nat) (h2 : l.getD m 0 ≠ 255) : trimN l (m + 1) = m + 1 := by
  rw [trimN, if_neg h2]

/-- where the byte that is raised stands, and one: nought where there is none -/
def cutN (l : List UInt8) : Nat := trimN l l.length
/-- the next text -/
def nextL (l : List UInt8) : List UInt8 := if cutN l = 0 then [] else l.take (cutN l - 1) ++ [l.getD (cutN l - 1) 0 + 1]
/-- whether there is one -/
def nextB (l : List UInt8) : Bool := !(cutN l == 0)

theorem cutN_le (l : List UInt8) : cutN l ≤ l.length := trimN_le l _
theorem nextL_none {l : List UInt8} (h : cutN l = 0) : nextL l = [] := by unfold nextL; rw [if_pos h]
theorem nextL_some {l : List UInt8} (h : cutN l ≠ 0) : nextL l = l.take (cutN l - 1) ++ [l.getD (cutN l - 1) 0 + 1] := by unfold nextL; rw [if_neg h]
theorem nextL_len {l : List UInt8} (h : cutN l ≠ 0) : (nextL l).length = cutN l := by
  have := cutN_le l
  rw [nextL_some h]; simp; omega
theorem nextL_len_le (l : List UInt8) : (nextL l).length ≤ l.length := by
  by_cases h : cutN l = 0
  · rw [nextL_none h]; exact Nat.zero_le _
  · rw [nextL_len h]; exact cutN_le l

theorem u8_add_one {b : UInt8} (h : b ≠ 255) : (b + 1).toNat = b.toNat + 1 := by
  have h2 : b.toNat ≠ 255 := fun e => h (UInt8.toNat.inj e)
  have := b.toNat_lt
  rw [UInt8.toNat_add]
  simp
  omega

/-- a list, parted where the byte stands that is raised -/
theorem cut_parts {l : List UInt8} (h : cutN l ≠ 0) : l = l.take (cutN l - 1) ++ l.getD (cutN l - 1) 0 :: l.drop (cutN l) := by
  have hl := cutN_le l
  have h1 : cutN l - 1 < l.length := by omega
  have e : l.drop (cutN l - 1) = l.getD (cutN l - 1) 0 :: l.drop (cutN l) := by
    rw [List.drop_eq_getElem_cons h1]
    congr 1
    · simp [List.getD, h1]
    · congr 1; omega
  rw [← e, List.take_append_drop]

theorem next_above {l : List UInt8} (h : cutN l ≠ 0) : Op.bytesLess l (nextL l) = true := by
  have e := cut_parts h
  have hb := trimN_last l l.length h
  have h1 := u8_add_one hb
  rw [nextL_some h]
  conv => lhs; arg 1; rw [e]
  rw [less_app, less_cons]
  simp only [Bool.or_eq_true, decide_eq_true_eq]
  left
  rw [UInt8.lt_iff_toNat_lt]
  unfold cutN
  omega

/-- what is above is not at or below -/
theorem less_asym {x y : List UInt8} (h : Op.bytesLess x y = true) : Op.bytesLess y x = false := by
  rw [less_eq] at h ⊢
  have h := of_decide_eq_true h
  exact decide_eq_false (fun h2 => absurd (List.lt_trans h h2) (List.lt_irrefl _))
theorem less_ne {x y : List UInt8} (h : Op.bytesLess x y = true) : (y == x) = false := by
  by_cases e : y = x
  · subst e; rw [less_self] at h; cases h
  · simpa using e

end Go.Proofs.YtiajmjmneodfaaaDoor
