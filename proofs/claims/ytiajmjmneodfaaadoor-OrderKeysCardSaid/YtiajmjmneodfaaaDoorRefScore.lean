/- The reference's TakeScore hands back the number whose code comes first, what is behind, and the error: the walk. The bytes are of a length that an int holds. -/
import Derived.Test.YtiajmjmneodfaaaDoorTakeScore
namespace Go.Proofs.YtiajmjmneodfaaaDoor
open Go.RowKit Fl

theorem below_draws {B : Nat} {a w : World} (h : Below B a w) : ∀ n : Nat, Below B a (w.drewN n) := fun _ => ⟨h.os, h.tape, h.output, h.size, h.block⟩

theorem nan_quiet (w : World) : Calls Tryd.prog 37 #[] w fun e w' => e = .returned (.float .f64 9221120237041090561) ∧ w' = w := (nan_any w).mono fun _ _ ⟨h1, h2⟩ => ⟨h1, h2.symm⟩

theorem refBack_nan (c : Nat) (hc : c < 18446744073709551616) (h : nanB (bitsOf c) = true) (w : World) : Calls Tryd.prog 36 #[.int .u64 (c : Int)] w fun e w' => e = .returned (.tuple #[.int .u64 (bitsOf c : Nat), .bool false]) ∧ w = w' := by
  have := refBack_any c hc w
  rw [h] at this
  exact this
theorem refBack_ok (c : Nat) (hc : c < 18446744073709551616) (h : nanB (bitsOf c) = false) (w : World) : Calls Tryd.prog 36 #[.int .u64 (c : Int)] w fun e w' => e = .returned (.tuple #[.int .u64 (bitsOf c : Nat), .bool true]) ∧ w = w' := by
  have := refBack_any c hc w
  rw [h] at this
  exact this

set_option maxHeartbeats 1600000 in
theorem refTakeScore_any (l : List UInt8) (hl : l.length ≤ 9223372036854775807) (w : World) : Calls Tryd.prog 20 #[.string (bs l)] w (TakeSEnd (takeS l) w) := by
  have hsz : (bs l).size = l.length := bs_size l
  by_cases h8 : l.length < 8
  · have hd : decide ((l.length : Int) < 8) = true := decide_eq_true (by omega)
    have HT := Lib.hid (takeS_short h8)
    go_enter Tryd.func20, Tryd.ntmps20
    go_wp2
    go_ret3
    refine ⟨?_, Below.refl _ _⟩
    rw [HT.out]; rfl
  · have hd : decide ((l.length : Int) < 8) = false := decide_eq_false (by omega)
    go_enter Tryd.func20, Tryd.ntmps20
    go_wp2
    go_loop [5, 6] (fun c i => WdRel l c i) (fun _ i => 8 - (intOf i).toNat)
    case atStart => exact ⟨0, by omega, rfl, rfl⟩
    case round =>
      obtain ⟨k, hk, rfl, rfl⟩ := hrel
      by_cases hlt : k < 8
      · have hidx := run_index_bs (P := Tryd.prog) 9 Tryd.underlying9 l k (by omega)
        have Hst := Lib.hid (take_snoc8 l k (by omega))
        have hc := word_lt56 l k hlt
        obtain ⟨b, HB⟩ : ∃ b, Hid (l.getD k 0 = b) := ⟨_, rfl⟩
        obtain ⟨c, HC⟩ : ∃ c, Hid (wordL (l.take k) = c) := ⟨_, rfl⟩
        rw [HB.out] at hidx
        rw [HC.out] at hc ⊢
        have hb := b.toNat_lt
        have hor := or_byte c b.toNat hc hb
        go_wp2
        go_round
        case rel => exact ⟨k + 1, by omega, by go_num, by rw [Hst.out, HB.out, HC.out]; go_num⟩
        case measure => simp [intOf]; omega
      · obtain rfl : k = 8 := by omega
        have hsl := run_slice_from_bs (P := Tryd.prog) 9 Tryd.underlying9 l 8 (by omega)
        rw [show ((8 : Nat) : Int) = 8 from rfl] at hsl
        have hc64 : wordL (l.take 8) < 18446744073709551616 := by
          have h1 := wordL_lt (l.take 8)
          have h2 : (l.take 8).length = 8 := by simp; omega
          rw [h2] at h1; omega
        by_cases hn : nanB (bitsOf (wordL (l.take 8))) = true
        · have Hbk := Lib.hid (refBack_nan (wordL (l.take 8)) hc64 hn)
          by_cases hm : wordL (l.take 8) = 18446744073709551615
          · have HT := Lib.hid (takeS_none h8 hn hm)
            have hm1 : ((wordL (l.take 8) : Nat) : Int) = 18446744073709551615 := by omega
            have hm2 : (((wordL (l.take 8) : Nat) : Int) == 18446744073709551615) = true := by rw [hm1]; rfl
            have hm3 : (((wordL (l.take 8) : Nat) : Int) != 18446744073709551615) = false := by rw [bne, hm2]; rfl
            clear hm hm1 hn
            generalize bitsOf (wordL (l.take 8)) = y at *
            generalize wordL (l.take 8) = c at *
            go_wp2_with (go_at_call 36; refine (Hbk.out _).mono ?_; rintro e w' ⟨rfl, rfl⟩)
            go_quiet ((go_at_call 37; exact Calls.quiet_of_same (nan_quiet _)))
            go_wp2
            go_ret3
            refine ⟨?_, below_draws (Below.refl _ _) _⟩
            rw [HT.out]; rfl
          · have HT := Lib.hid (takeS_form h8 hn hm)
            have hm2 : (((wordL (l.take 8) : Nat) : Int) == 18446744073709551615) = false := by simp; omega
            have hm3 : (((wordL (l.take 8) : Nat) : Int) != 18446744073709551615) = true := by rw [bne, hm2]; rfl
            clear hm hn
            generalize bitsOf (wordL (l.take 8)) = y at *
            generalize wordL (l.take 8) = c at *
            go_wp2_with (go_at_call 36; refine (Hbk.out _).mono ?_; rintro e w' ⟨rfl, rfl⟩)
            go_ret3
            refine ⟨?_, Below.refl _ _⟩
            rw [HT.out]; rfl
        · have hn' : nanB (bitsOf (wordL (l.take 8))) = false := by simpa using hn
          have HT := Lib.hid (takeS_ok h8 hn')
          have Hbk := Lib.hid (refBack_ok (wordL (l.take 8)) hc64 hn')
          have hf := frombits_nat
          clear hn hn'
          generalize bitsOf (wordL (l.take 8)) = y at *
          generalize wordL (l.take 8) = c at *
          go_wp2_with (go_at_call 36; refine (Hbk.out _).mono ?_; rintro e w' ⟨rfl, rfl⟩)
          go_region
          go_wp2
          go_ret3
          refine ⟨?_, (Below.refl _ _).drew⟩
          rw [HT.out]; rfl
end Go.Proofs.YtiajmjmneodfaaaDoor
