/- order.TakeScore and the reference's hand back the number whose code comes first, what is behind, and the error: the walks. The bytes are of a length that an int holds. -/
import Derived.Test.YtiajmjmneodfaaaDoorBack
import Derived.Test.YtiajmjmneodfaaaDoorTake
namespace Go.Proofs.YtiajmjmneodfaaaDoor
open Go.RowKit Fl

def TakeSEnd (x : Nat × List UInt8 × Nat) (w : World) (e : Ending) (w' : World) : Prop :=
  e = .returned (.tuple #[.float .f64 x.1, .string (bs x.2.1), .int .i64 x.2.2]) ∧ Below w.heap.size w w'

theorem take_snoc8 (l : List UInt8) (k : Nat) (h : k < l.length) : wordL (l.take (k + 1)) = wordL (l.take k) * 256 + (l.getD k 0).toNat := by
  have : l.take (k + 1) = l.take k ++ [l.getD k 0] := by
    rw [List.take_succ_eq_append_getElem h]; simp [List.getD, h]
  rw [this, wordL_snoc]

theorem word_lt56 (l : List UInt8) (k : Nat) (h : k < 8) : wordL (l.take k) < 72057594037927936 := by
  have h1 := wordL_lt (l.take k)
  have h2 : 256 ^ (l.take k).length ≤ 256 ^ 7 := Nat.pow_le_pow_right (by omega) (by simp; omega)
  omega

def WdRel (l : List UInt8) (c i : Value) : Prop := ∃ k : Nat, k ≤ 8 ∧ i = .int .i64 k ∧ c = .int .u64 (wordL (l.take k) : Nat)

theorem or_byte (c b : Nat) (hc : c < 72057594037927936) (hb : b < 256) : bits .or .u64 ((c : Int) * 256) (b : Int) = ((c * 256 + b : Nat) : Int) := by
  have h := u64_or_nat (c * 256) b (by omega) (by omega)
  rw [show ((c * 256 : Nat) : Int) = (c : Int) * 256 from by omega] at h
  rw [h]
  have h2 := nat_join 8 (c * 256) b (by omega) (by omega)
  rw [h2]

set_option maxHeartbeats 1600000 in
theorem takeScore_any (l : List UInt8) (hl : l.length ≤ 9223372036854775807) (w : World) : Calls Tryd.prog 19 #[.string (bs l)] w (TakeSEnd (takeS l) w) := by
  have hsz : (bs l).size = l.length := bs_size l
  by_cases h8 : l.length < 8
  · have hd : decide ((l.length : Int) < 8) = true := decide_eq_true (by omega)
    have HT := Lib.hid (takeS_short h8)
    go_enter Tryd.func19, Tryd.ntmps19
    go_wp2
    go_ret3
    refine ⟨?_, Below.refl _ _⟩
    rw [HT.out]; rfl
  · have hd : decide ((l.length : Int) < 8) = false := decide_eq_false (by omega)
    go_enter Tryd.func19, Tryd.ntmps19
    go_wp2
    go_loop [5, 10] (fun c i => WdRel l c i) (fun _ i => 8 - (intOf i).toNat)
    case atStart => exact ⟨0, by omega, rfl, rfl⟩
    case round =>
      obtain ⟨k, hk, rfl, rfl⟩ := hrel
      by_cases hlt : k < 8
      · have hidx := run_index_bs (P := Tryd.prog) 9 Tryd.underlying9 l k (by omega)
        have Hst := Lib.hid (take_snoc8 l k (by omega))
        have hc := word_lt56 l k hlt
        obtain ⟨b, HB⟩ : ∃ b, Hid (l.getD k 0 = b) := ⟨_, rfl⟩
        obtain ⟨c, HC⟩ : ∃ c, Hid (wordL (l.take k) = c) := ⟨_, rfl⟩
        rw [HB.out] at hidx
        rw [HC.out] at hc ⊢
        have hb := b.toNat_lt
        have hor := or_byte c b.toNat hc hb
        go_wp2
        go_round
        case rel => exact ⟨k + 1, by omega, by go_num, by rw [Hst.out, HB.out, HC.out]; go_num⟩
        case measure => simp [intOf]; omega
      · obtain rfl : k = 8 := by omega
        have hsl := run_slice_from_bs (P := Tryd.prog) 9 Tryd.underlying9 l 8 (by omega)
        rw [show ((8 : Nat) : Int) = 8 from rfl] at hsl
        have hc64 : wordL (l.take 8) < 18446744073709551616 := by
          have h1 := wordL_lt (l.take 8)
          have h2 : (l.take 8).length = 8 := by simp; omega
          rw [h2] at h1; omega
        have HS : Hid (takeS l = takeS l) := Lib.hid rfl
        by_cases hn : nanB (bitsOf (wordL (l.take 8))) = true
        · have hbk : backN (wordL (l.take 8)) = noneBits := by unfold backN; rw [if_pos hn]
          have Hbk := Lib.hid (back_any (wordL (l.take 8)) hc64)
          rw [hbk] at Hbk
          have Hnn := Lib.hid (isNaN_any noneBits)
          rw [none_nan] at Hnn
          by_cases hm : wordL (l.take 8) = 18446744073709551615
          · have HT := Lib.hid (takeS_none h8 hn hm)
            have hm1 : ((wordL (l.take 8) : Nat) : Int) = 18446744073709551615 := by omega
            have hm2 : (((wordL (l.take 8) : Nat) : Int) == 18446744073709551615) = true := by rw [hm1]; rfl
            have hm3 : (((wordL (l.take 8) : Nat) : Int) != 18446744073709551615) = false := by rw [bne, hm2]; rfl
            clear hm hm1 hn hbk
            generalize wordL (l.take 8) = c at *
            generalize noneBits = nb at *
            go_wp2_with (first | (go_at_call 34; refine (Hbk.out _).mono ?_; rintro e w' ⟨rfl, rfl⟩) | (go_at_call 35; refine (Hnn.out _).mono ?_; rintro e w' ⟨rfl, rfl⟩))
            go_region
            go_wp2
            go_ret3
            refine ⟨?_, (Below.refl _ _).drew⟩
            rw [HT.out]; rfl
          · have HT := Lib.hid (takeS_form h8 hn hm)
            have hm2 : (((wordL (l.take 8) : Nat) : Int) == 18446744073709551615) = false := by simp; omega
            have hm3 : (((wordL (l.take 8) : Nat) : Int) != 18446744073709551615) = true := by rw [bne, hm2]; rfl
            clear hm hn hbk
            generalize wordL (l.take 8) = c at *
            generalize noneBits = nb at *
            go_wp2_with (first | (go_at_call 34; refine (Hbk.out _).mono ?_; rintro e w' ⟨rfl, rfl⟩) | (go_at_call 35; refine (Hnn.out _).mono ?_; rintro e w' ⟨rfl, rfl⟩))
            go_ret3
            refine ⟨?_, Below.refl _ _⟩
            rw [HT.out]; rfl
        · have hn' : nanB (bitsOf (wordL (l.take 8))) = false := by simpa using hn
          have HT := Lib.hid (takeS_ok h8 hn')
          have hbk : backN (wordL (l.take 8)) = bitsOf (wordL (l.take 8)) := by unfold backN; rw [if_neg hn]
          have Hbk := Lib.hid (back_any (wordL (l.take 8)) hc64)
          rw [hbk] at Hbk
          have Hnn := Lib.hid (isNaN_any (bitsOf (wordL (l.take 8))))
          rw [hn'] at Hnn
          clear hn hn' hbk
          generalize bitsOf (wordL (l.take 8)) = nb at *
          generalize wordL (l.take 8) = c at *
          go_wp2_with (first | (go_at_call 34; refine (Hbk.out _).mono ?_; rintro e w' ⟨rfl, rfl⟩) | (go_at_call 35; refine (Hnn.out _).mono ?_; rintro e w' ⟨rfl, rfl⟩))
          go_region
          go_wp2
          go_ret3
          refine ⟨?_, (Below.refl _ _).drew⟩
          rw [HT.out]; rfl
end Go.Proofs.YtiajmjmneodfaaaDoor
