/- OrderScores answers true: the walk. The bytes are of a length that a text may have; the library's variable internal/bytealg.MaxLen holds some int. (Printed by mkscores.py.) -/
import Derived.Test.YtiajmjmneodfaaaDoorRefScore
import Derived.Test.YtiajmjmneodfaaaDoorCode8
import Derived.Test.YtiajmjmneodfaaaDoorAwake
namespace Go.Proofs.YtiajmjmneodfaaaDoor
open Go.RowKit Fl

theorem takeScore_code (b : Nat) (hb : b < 18446744073709551616) (r : List UInt8) (hr : r.length ≤ 140737488351232) (w : World) :
    Calls Tryd.prog 19 #[.string (bs (code8 (code b) ++ r))] w fun e w' => e = .returned (.tuple #[.float .f64 (if nanB b = true then noneBits else b), .string (bs r), .int .i64 0]) ∧ Below w.heap.size w w' := by
  refine (takeScore_any (code8 (code b) ++ r) (by simp [code8_len]; omega) w).mono ?_
  rintro e w' ⟨rfl, hb2⟩
  rw [takeS_code b hb]
  exact ⟨rfl, hb2⟩

/-- three ways: how two words stand, their codes, and what is told -/
theorem three (m n : Nat) (hm : m < 18446744073709551616) (hn : n < 18446744073709551616) :
    (cmpN m n = -1 ∧ Op.bytesLess (bs (code8 m)).toList (bs (code8 n)).toList = true ∧ ((bs (code8 m)).toList == (bs (code8 n)).toList) = false) ∨
    (cmpN m n = 0 ∧ Op.bytesLess (bs (code8 m)).toList (bs (code8 n)).toList = false ∧ ((bs (code8 m)).toList == (bs (code8 n)).toList) = true) ∨
    (cmpN m n = 1 ∧ Op.bytesLess (bs (code8 m)).toList (bs (code8 n)).toList = false ∧ ((bs (code8 m)).toList == (bs (code8 n)).toList) = false) := by
  rw [bs_list, bs_list, code8_less m n hm hn, code8_eq m n hm hn]
  rcases Nat.lt_trichotomy m n with h | h | h
  · exact .inl ⟨by unfold cmpN; rw [if_pos h], decide_eq_true h, decide_eq_false (by omega)⟩
  · exact .inr (.inl ⟨by unfold cmpN; rw [if_neg (by omega), if_neg (by omega)], decide_eq_false (by omega), decide_eq_true h⟩)
  · exact .inr (.inr ⟨by unfold cmpN; rw [if_neg (by omega), if_pos h], decide_eq_false (by omega), decide_eq_false (by omega)⟩)

set_option maxRecDepth 100000 in
set_option maxHeartbeats 6400000 in
theorem scores_walk (a b : Nat) (junk : List UInt8) (ha : a < 18446744073709551616) (hb : b < 18446744073709551616) (hj : junk.length ≤ 140737488351232) (w : World) (hm : MaxIs w) :
    Calls Tryd.prog 7 #[.int .u64 (a : Int), .int .u64 (b : Int), .string (bs junk)] w (True1 w) := by
  have Hm := hm
  clear hm
  have hf := frombits_nat
  have c1 := Lib.hid (score_any a ha)
  have c2 := Lib.hid (score_any b hb)
  have c3 := Lib.hid (takeScore_code a ha junk hj)
  have c4 := Lib.hid (takeScore_any junk (by omega))
  have c5 := Lib.hid (refTakeScore_any junk (by omega))
  have c6 := Lib.hid (refCmp_any a b ha hb)
  have c7 := Lib.hid (refCode_any a ha)
  have c8 := Lib.hid (code8_any (code a) (code_lt ha))
  have c9 := Lib.hid (fun w => (sameBits_back a ha w).1)
  have c10 := Lib.hid sameBits_eq
  have h3 := three (code a) (code b) (code_lt ha) (code_lt hb)
  have hcat : ∀ w, (Op.stringOp .add (bs (code8 (code a))) (bs junk)).run Tryd.prog w = .ok (.string (bs (code8 (code a) ++ junk))) w := fun w => by
    rw [run_string_add_sum w _ _ (by simp [bs_size, code8_len]; omega), bs_add]
  obtain ⟨t, HT⟩ : ∃ t, Hid (takeS junk = t) := ⟨_, rfl⟩
  rw [HT.out] at c4 c5
  obtain ⟨t1, t2, t3⟩ := t
  generalize (if nanB a = true then noneBits else a) = z at c3 c9
  generalize code a = ca at *
  generalize code b = cb at *
  have hcc : cmpN ca cb = cmpN ca cb := rfl
  clear hcc
  rcases h3 with ⟨hz, h1, h2⟩ | ⟨hz, h1, h2⟩ | ⟨hz, h1, h2⟩
  · rw [hz] at c6
    clear hz
    go_enter Tryd.func7, Tryd.ntmps7
    go_wp2_with fail
    refine (c1.out w).mono ?_
    rintro e w1 ⟨rfl, k1⟩
    go_wp2_with fail
    refine (c2.out w1).mono ?_
    rintro e w2 ⟨rfl, k2⟩
    have b2 := k1.trans (k2.mono k1.size)
    clear k1 k2
    go_wp2_with fail
    refine (c3.out w2).mono ?_
    rintro e w3 ⟨rfl, k3⟩
    have b3 := b2.trans (k3.mono b2.size)
    clear k3 b2
    go_wp2_with fail
    refine (c4.out w3).mono ?_
    rintro e w4 ⟨rfl, k4⟩
    have b4 := b3.trans (k4.mono b3.size)
    clear k4 b3
    go_wp2_with fail
    refine (c5.out w4).mono ?_
    rintro e w5 ⟨rfl, k5⟩
    have b5 := b4.trans (k5.mono b4.size)
    clear k5 b4
    go_wp2_with fail
    refine (c6.out w5).mono ?_
    rintro e w' ⟨rfl, rfl⟩
    go_wp2_with fail
    refine (c7.out w5).mono ?_
    rintro e w' ⟨rfl, rfl⟩
    go_wp2_with fail
    refine (c8.out w5).mono ?_
    rintro e w6 ⟨rfl, k6⟩
    have b6 := b5.trans (k6.mono b5.size)
    clear k6 b5
    go_wp2_with fail
    refine (c9.out w6).mono ?_
    rintro e w' ⟨rfl, rfl⟩
    go_wp2_with fail
    refine (c10.out _ w6).mono ?_
    rintro e w' ⟨rfl, rfl⟩
    go_wp2_with fail
    refine (awake_any w6 (Hm.below b6)).mono ?_
    rintro e w7 ⟨rfl, k7⟩
    have b7 := b6.trans (k7.mono b6.size)
    clear k7 b6
    go_wp2
    go_ret
    exact ⟨rfl, b7⟩
  · rw [hz] at c6
    clear hz
    go_enter Tryd.func7, Tryd.ntmps7
    go_wp2_with fail
    refine (c1.out w).mono ?_
    rintro e w1 ⟨rfl, k1⟩
    go_wp2_with fail
    refine (c2.out w1).mono ?_
    rintro e w2 ⟨rfl, k2⟩
    have b2 := k1.trans (k2.mono k1.size)
    clear k1 k2
    go_wp2_with fail
    refine (c3.out w2).mono ?_
    rintro e w3 ⟨rfl, k3⟩
    have b3 := b2.trans (k3.mono b2.size)
    clear k3 b2
    go_wp2_with fail
    refine (c4.out w3).mono ?_
    rintro e w4 ⟨rfl, k4⟩
    have b4 := b3.trans (k4.mono b3.size)
    clear k4 b3
    go_wp2_with fail
    refine (c5.out w4).mono ?_
    rintro e w5 ⟨rfl, k5⟩
    have b5 := b4.trans (k5.mono b4.size)
    clear k5 b4
    go_wp2_with fail
    refine (c6.out w5).mono ?_
    rintro e w' ⟨rfl, rfl⟩
    go_wp2_with fail
    refine (c7.out w5).mono ?_
    rintro e w' ⟨rfl, rfl⟩
    go_wp2_with fail
    refine (c8.out w5).mono ?_
    rintro e w6 ⟨rfl, k6⟩
    have b6 := b5.trans (k6.mono b5.size)
    clear k6 b5
    go_wp2_with fail
    refine (c9.out w6).mono ?_
    rintro e w' ⟨rfl, rfl⟩
    go_wp2_with fail
    refine (c10.out _ w6).mono ?_
    rintro e w' ⟨rfl, rfl⟩
    go_wp2_with fail
    refine (awake_any w6 (Hm.below b6)).mono ?_
    rintro e w7 ⟨rfl, k7⟩
    have b7 := b6.trans (k7.mono b6.size)
    clear k7 b6
    go_wp2
    go_ret
    exact ⟨rfl, b7⟩
  · rw [hz] at c6
    clear hz
    go_enter Tryd.func7, Tryd.ntmps7
    go_wp2_with fail
    refine (c1.out w).mono ?_
    rintro e w1 ⟨rfl, k1⟩
    go_wp2_with fail
    refine (c2.out w1).mono ?_
    rintro e w2 ⟨rfl, k2⟩
    have b2 := k1.trans (k2.mono k1.size)
    clear k1 k2
    go_wp2_with fail
    refine (c3.out w2).mono ?_
    rintro e w3 ⟨rfl, k3⟩
    have b3 := b2.trans (k3.mono b2.size)
    clear k3 b2
    go_wp2_with fail
    refine (c4.out w3).mono ?_
    rintro e w4 ⟨rfl, k4⟩
    have b4 := b3.trans (k4.mono b3.size)
    clear k4 b3
    go_wp2_with fail
    refine (c5.out w4).mono ?_
    rintro e w5 ⟨rfl, k5⟩
    have b5 := b4.trans (k5.mono b4.size)
    clear k5 b4
    go_wp2_with fail
    refine (c6.out w5).mono ?_
    rintro e w' ⟨rfl, rfl⟩
    go_wp2_with fail
    refine (c7.out w5).mono ?_
    rintro e w' ⟨rfl, rfl⟩
    go_wp2_with fail
    refine (c8.out w5).mono ?_
    rintro e w6 ⟨rfl, k6⟩
    have b6 := b5.trans (k6.mono b5.size)
    clear k6 b5
    go_wp2_with fail
    refine (c9.out w6).mono ?_
    rintro e w' ⟨rfl, rfl⟩
    go_wp2_with fail
    refine (c10.out _ w6).mono ?_
    rintro e w' ⟨rfl, rfl⟩
    go_wp2_with fail
    refine (awake_any w6 (Hm.below b6)).mono ?_
    rintro e w7 ⟨rfl, k7⟩
    have b7 := b6.trans (k7.mono b6.size)
    clear k7 b6
    go_wp2
    go_ret
    exact ⟨rfl, b7⟩
end Go.Proofs.YtiajmjmneodfaaaDoor
