/- reliquaryref3.Next hands back the next text too; and all that lies between a text and the next begins with it. The text is of a length that an int holds. -/
import Derived.Test.YtiajmjmneodfaaaDoorNext
namespace Go.Proofs.YtiajmjmneodfaaaDoor
open Go.RowKit

theorem ones_prefix : ∀ (t o : List UInt8), (∀ x ∈ t, x = 255) → t.isPrefixOf o = !Op.bytesLess o t
  | [], o, _ => by rw [less_nil]; simp
  | a :: t, [], h => by simp [Op.bytesLess]
  | a :: t, c :: o, h => by
    obtain rfl : a = 255 := h a (by simp)
    rw [less_cons, List.isPrefixOf, ones_prefix t o (fun x hx => h x (by simp [hx]))]
    by_cases hc : c = 255
    · subst hc; simp [UInt8.lt_irrefl]
    · have : c < 255 := by
        rw [UInt8.lt_iff_toNat_lt]
        have h1 := c.toNat_lt
        have h2 : c.toNat ≠ 255 := fun e => hc (UInt8.toNat.inj e)
        have h3 : (255 : UInt8).toNat = 255 := rfl
        omega
      simp [this, Ne.symm hc]

theorem between_aux (b : UInt8) (hb : b ≠ 255) (t : List UInt8) (ht : ∀ x ∈ t, x = 255) : ∀ (p o : List UInt8),
    (p ++ b :: t).isPrefixOf o = (!Op.bytesLess o (p ++ b :: t) && Op.bytesLess o (p ++ [b + 1]))
  | [], [] => by simp [Op.bytesLess]
  | [], c :: o => by
    have h1 := u8_add_one hb
    rw [List.nil_append, List.nil_append, less_cons, less_cons, less_nil, List.isPrefixOf, ones_prefix t o ht]
    rcases Nat.lt_trichotomy c.toNat b.toNat with h | h | h
    · have e1 : c < b := by rw [UInt8.lt_iff_toNat_lt]; exact h
      have e2 : (b == c) = false := by simp; intro e; subst e; exact absurd h (Nat.lt_irrefl _)
      simp [e1, e2]
    · obtain rfl : c = b := UInt8.toNat.inj h
      have e1 : c < c + 1 := by rw [UInt8.lt_iff_toNat_lt]; omega
      simp [e1, UInt8.lt_irrefl]
    · have e1 : ¬ c < b + 1 := by rw [UInt8.lt_iff_toNat_lt]; omega
      have e2 : (b == c) = false := by simp; intro e; subst e; exact absurd h (Nat.lt_irrefl _)
      simp [e1, e2]
  | a :: p, [] => by simp [Op.bytesLess]
  | a :: p, c :: o => by
    rw [List.cons_append, List.cons_append, less_cons, less_cons, List.isPrefixOf, between_aux b hb t ht p o]
    rcases Nat.lt_trichotomy c.toNat a.toNat with h | h | h
    · have e1 : c < a := by rw [UInt8.lt_iff_toNat_lt]; exact h
      have e2 : (a == c) = false := by simp; intro e; subst e; exact absurd h (Nat.lt_irrefl _)
      simp [e1, e2]
    · obtain rfl : c = a := UInt8.toNat.inj h
      simp [UInt8.lt_irrefl]
    · have e1 : ¬ c < a := by rw [UInt8.lt_iff_toNat_lt]; omega
      have e2 : (a == c) = false := by simp; intro e; subst e; exact absurd h (Nat.lt_irrefl _)
      have e3 : (c == a) = false := by simp; intro e; subst e; exact absurd h (Nat.lt_irrefl _)
      simp [e1, e2, e3]

theorem between {l : List UInt8} (h : cutN l ≠ 0) (o : List UInt8) : l.isPrefixOf o = (!Op.bytesLess o l && Op.bytesLess o (nextL l)) := by
  have e := cut_parts h
  have hb := trimN_last l l.length h
  rw [nextL_some h]
  have ht : ∀ x ∈ l.drop (cutN l), x = 255 := by
    intro x hx
    obtain ⟨i, hi, rfl⟩ := List.getElem_of_mem hx
    have hi' : cutN l + i < l.length := by simp at hi; omega
    have := trimN_behind l l.length (cutN l + i) (by unfold cutN; omega) hi'
    rw [List.getElem_drop]
    simpa [List.getD, hi'] using this
  have := between_aux (l.getD (cutN l - 1) 0) hb _ ht (l.take (cutN l - 1)) o
  rw [← e] at this
  exact this

def RefRel (l : List UInt8) (s : Value) : Prop := ∃ m : Nat, m ≤ l.length ∧ trimN l m = cutN l ∧ s = .int .i64 m

set_option maxHeartbeats 400000 in
theorem refNext_any (l : List UInt8) (hl : l.length ≤ 9223372036854775807) (w : World) : Calls Tryd.prog 12 #[.string (bs l)] w (NextEnd l w) := by
  go_enter Tryd.func12, Tryd.ntmps12
  go_wp2
  go_loop [4] (fun s => RefRel l s) (fun s => (intOf s).toNat)
  case atStart => exact ⟨l.length, Nat.le_refl _, rfl, rfl⟩
  case round =>
    obtain ⟨m, hm, hmt, rfl⟩ := hrel
    have hsz : (bs l).size = l.length := bs_size l
    rcases m with _ | j
    · have HM := Lib.hid hmt
      clear hmt
      go_wp2
      go_ret2
      refine ⟨?_, Below.refl _ _⟩
      have h0 : cutN l = 0 := by rw [← HM.out]; rfl
      rw [nextL_none h0]; unfold nextB; rw [h0]; rfl
    · have hj : j < l.length := by omega
      have hidx := run_index_bs (P := Tryd.prog) 9 Tryd.underlying9 l j hj
      have hsl := run_slice_to_bs (P := Tryd.prog) 9 Tryd.underlying9 l j (by omega)
      generalize bs l = x at hsz hidx hsl ⊢
      have HM := Lib.hid hmt
      have hBx : ∃ b, Hid (l.getD j 0 = b) := ⟨_, rfl⟩
      obtain ⟨b, hB⟩ := hBx
      rw [hB.out] at hidx
      clear hmt
      by_cases h255 : b = 255
      · have ht : ((b.toNat : Int) == 255) = true := by rw [show (255 : Int) = ((255 : Nat) : Int) from rfl, u8_is _ 255 (by omega)]; simpa using h255
        have H255 : Hid (l.getD j 0 = 255) := Lib.hid (hB.out.trans h255)
        clear h255
        go_wp2
        go_round
        case rel => exact ⟨j, by omega, trimN_step l j _ HM.out H255.out, rfl⟩
        case measure => simp [intOf]
      · have ht : ((b.toNat : Int) == 255) = false := by rw [show (255 : Int) = ((255 : Nat) : Int) from rfl, u8_is _ 255 (by omega)]; simpa using h255
        have hcut : Hid (cutN l = j + 1) := Lib.hid (by rw [← HM.out]; exact trimN_stop l j (by rw [hB.out]; exact h255))
        obtain ⟨c, hC⟩ : ∃ c, Hid (b + 1 = c) := ⟨_, rfl⟩
        have hc1 : c.toNat = b.toNat + 1 := by rw [← hC.out]; exact u8_add_one h255
        have hb8 := c.toNat_lt
        have hm8 : ((b.toNat : Int) + 1) % 256 = (c.toNat : Int) := by omega
        have hw8 : IntKind.u8.wrap ((b.toNat : Int) + 1) = (c.toNat : Int) := by rw [← hm8]; rfl
        clear HM h255 hc1 hb8
        have hconv : (convert 52 9 (.slice (some ⟨w.heap.size, 0, none⟩) 1 1)).run Tryd.prog (w.alloc (.cells #[.int .u8 (c.toNat : Int)] 5)).drew = .ok (.string (bs [c])) (w.alloc (.cells #[.int .u8 (c.toNat : Int)] 5)).drew := by
          exact run_convert_bytes_back _ 52 9 5 ⟨w.heap.size, 0, none⟩ 1 [c] Tryd.underlying52 Tryd.underlying5 Tryd.underlying9 (fun i hi => by
            obtain rfl : i = 0 := by simpa using hi
            simp [Addr.add])
        have hcat : ∀ w, (Op.stringOp .add (bs (l.take j)) (bs [c])).run Tryd.prog w = .ok (.string (bs (l.take j ++ [c]))) w := fun w => by
          rw [run_string_add_sum w _ _ (by simp [bs_size]; omega), bs_add]
        have hsub : IntKind.i64.wrap ((j : Int) + 1 - 1) = (j : Int) := by rw [IntKind.wrap_i64]; omega
        go_wp2
        go_region
        go_wp2
        go_ret2
        have hne : cutN l ≠ 0 := by rw [hcut.out]; omega
        refine ⟨?_, ((Below.refl _ _).alloc (Nat.le_refl _) _).drew⟩
        rw [nextL_some hne, hcut.out, Nat.add_sub_cancel, hB.out, hC.out]
        unfold nextB
        rw [hcut.out]
        rfl
end Go.Proofs.YtiajmjmneodfaaaDoor
