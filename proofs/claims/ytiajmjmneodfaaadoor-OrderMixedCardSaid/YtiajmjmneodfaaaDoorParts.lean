/- order.Key and order.Parts: the walks. The texts are of a length that a text may have. -/
import Derived.Test.YtiajmjmneodfaaaDoorTakeScore
namespace Go.Proofs.YtiajmjmneodfaaaDoor
open Go.RowKit Fl

set_option maxHeartbeats 400000 in
theorem key_any (b : Nat) (hb : b < 18446744073709551616) (m : List UInt8) (hm : m.length ≤ 140737488351232) (w : World) :
    Calls Tryd.prog 25 #[.float .f64 b, .string (bs m)] w fun e w' => e = .returned (.string (bs (code8 (code b) ++ m))) ∧ Below w.heap.size w w' := by
  have c1 := Lib.hid (score_any b hb)
  have hcat : ∀ w, (Op.stringOp .add (bs (code8 (code b))) (bs m)).run Tryd.prog w = .ok (.string (bs (code8 (code b) ++ m))) w := fun w => by
    rw [run_string_add_sum w _ _ (by simp [bs_size, code8_len]; omega), bs_add]
  generalize code b = c at *
  go_enter Tryd.func25, Tryd.ntmps25
  go_wp2_with fail
  refine (c1.out w).mono ?_
  rintro e w1 ⟨rfl, h1⟩
  go_wp2
  go_ret
  exact ⟨rfl, h1⟩

set_option maxHeartbeats 800000 in
theorem parts_empty (l : List UInt8) (hl : l.length ≤ 9223372036854775807) (h2 : (takeS l).2.1 = []) (h3 : (takeS l).2.2 = 0) (w : World) :
    Calls Tryd.prog 26 #[.string (bs l)] w fun e w' => e = .returned (.tuple #[.float .f64 0, .string ⟨#[]⟩, .int .i64 3]) ∧ Below w.heap.size w w' := by
  have c1 := takeScore_any l hl w
  obtain ⟨t, HT⟩ : ∃ t, Hid (takeS l = t) := ⟨_, rfl⟩
  rw [HT.out] at c1 h2 h3
  obtain ⟨t1, t2, t3⟩ := t
  have e2 : t2 = [] := h2
  have e3 : t3 = 0 := h3
  subst e2; subst e3
  have hem : (bs []).toList.isEmpty = true := by rw [bs_list]; rfl
  have C1 := Lib.hid c1
  clear c1 h2 h3
  go_enter Tryd.func26, Tryd.ntmps26
  go_wp2_with fail
  refine C1.out.mono ?_
  rintro e w1 ⟨rfl, h1⟩
  go_wp2
  go_ret3
  exact ⟨rfl, h1⟩

set_option maxHeartbeats 800000 in
theorem parts_ok (l : List UInt8) (hl : l.length ≤ 9223372036854775807) (h2 : (takeS l).2.1 ≠ []) (h3 : (takeS l).2.2 = 0) (w : World) :
    Calls Tryd.prog 26 #[.string (bs l)] w fun e w' => e = .returned (.tuple #[.float .f64 (takeS l).1, .string (bs (takeS l).2.1), .int .i64 0]) ∧ Below w.heap.size w w' := by
  have c1 := takeScore_any l hl w
  obtain ⟨t, HT⟩ : ∃ t, Hid (takeS l = t) := ⟨_, rfl⟩
  rw [HT.out] at c1 h2 h3 ⊢
  obtain ⟨t1, t2, t3⟩ := t
  have e2 : t2 ≠ [] := h2
  have e3 : t3 = 0 := h3
  subst e3
  have hem : (bs t2).toList.isEmpty = false := by rw [bs_list]; cases t2 with | nil => exact absurd rfl e2 | cons _ _ => rfl
  have C1 := Lib.hid c1
  clear c1 h2 h3 e2
  go_enter Tryd.func26, Tryd.ntmps26
  go_wp2_with fail
  refine C1.out.mono ?_
  rintro e w1 ⟨rfl, h1⟩
  go_wp2
  go_ret3
  exact ⟨rfl, h1⟩

/-- where there is an error, there is nothing else -/
theorem takeS_err (l : List UInt8) (h : (takeS l).2.2 ≠ 0) : (takeS l).1 = 0 ∧ (takeS l).2.1 = [] ∧ ((takeS l).2.2 = 3 ∨ (takeS l).2.2 = 4) := by
  unfold takeS at h ⊢
  split
  · exact ⟨rfl, rfl, .inr rfl⟩
  · rename_i h1
    rw [if_neg h1] at h
    split
    · rename_i h2
      rw [if_pos h2] at h
      split
      · rename_i h3
        rw [if_pos h3] at h
        exact absurd rfl h
      · exact ⟨rfl, rfl, .inl rfl⟩
    · rename_i h2
      rw [if_neg h2] at h
      exact absurd rfl h

set_option maxHeartbeats 800000 in
theorem parts_err (l : List UInt8) (hl : l.length ≤ 9223372036854775807) (h3 : (takeS l).2.2 ≠ 0) (w : World) :
    Calls Tryd.prog 26 #[.string (bs l)] w fun e w' => e = .returned (.tuple #[.float .f64 0, .string (bs []), .int .i64 (takeS l).2.2]) ∧ Below w.heap.size w w' := by
  have c1 := takeScore_any l hl w
  obtain ⟨h1, h2, _⟩ := takeS_err l h3
  obtain ⟨t, HT⟩ : ∃ t, Hid (takeS l = t) := ⟨_, rfl⟩
  rw [HT.out] at c1 h1 h2 h3 ⊢
  obtain ⟨t1, t2, t3⟩ := t
  have e1 : t1 = 0 := h1
  have e2 : t2 = [] := h2
  subst e1; subst e2
  have hz : ((t3 : Int) == 0) = false := by simp; exact h3
  have C1 := Lib.hid c1
  clear c1 h1 h2 h3
  go_enter Tryd.func26, Tryd.ntmps26
  go_wp2_with fail
  refine C1.out.mono ?_
  rintro e w1 ⟨rfl, h1⟩
  go_wp2
  go_ret3
  exact ⟨rfl, h1⟩

/-- a key, parted -/
theorem parts_key (b : Nat) (hb : b < 18446744073709551616) (m : List UInt8) (hm : m.length ≤ 140737488351232) (hne : m ≠ []) (w : World) :
    Calls Tryd.prog 26 #[.string (bs (code8 (code b) ++ m))] w fun e w' => e = .returned (.tuple #[.float .f64 (if nanB b = true then noneBits else b), .string (bs m), .int .i64 0]) ∧ Below w.heap.size w w' := by
  have ht := takeS_code b hb m
  have := parts_ok (code8 (code b) ++ m) (by simp [code8_len]; omega) (by rw [ht]; exact hne) (by rw [ht]) w
  rw [ht] at this
  exact this
theorem parts_key_none (b : Nat) (hb : b < 18446744073709551616) (w : World) :
    Calls Tryd.prog 26 #[.string (bs (code8 (code b) ++ []))] w fun e w' => e = .returned (.tuple #[.float .f64 0, .string ⟨#[]⟩, .int .i64 3]) ∧ Below w.heap.size w w' := by
  have ht := takeS_code b hb []
  exact parts_empty (code8 (code b) ++ []) (by simp [code8_len]) (by rw [ht]) (by rw [ht]) w
end Go.Proofs.YtiajmjmneodfaaaDoor
