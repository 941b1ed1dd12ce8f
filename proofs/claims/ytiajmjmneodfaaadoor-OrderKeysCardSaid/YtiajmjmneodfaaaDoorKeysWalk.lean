/- OrderKeys answers true: the walk. The texts are of a length that a text may have; the library's variable internal/bytealg.MaxLen holds some int. (Printed by mkkeys.py.) -/
import Derived.Test.YtiajmjmneodfaaaDoorRefScore
import Derived.Test.YtiajmjmneodfaaaDoorParts
import Derived.Test.YtiajmjmneodfaaaDoorAwake
namespace Go.Proofs.YtiajmjmneodfaaaDoor
open Go.RowKit Fl

/-- how two keys stand: by the word, then by the name -/
theorem keys_stand (x y : Nat) (hx : x < 18446744073709551616) (hy : y < 18446744073709551616) (m n : List UInt8) :
    (cmpN x y = -1 ∧ Op.bytesLess (bs (code8 x ++ m)).toList (bs (code8 y ++ n)).toList = true) ∨
    (cmpN x y = 0 ∧ Op.bytesLess (bs m).toList (bs n).toList = true ∧ Op.bytesLess (bs (code8 x ++ m)).toList (bs (code8 y ++ n)).toList = true) ∨
    (cmpN x y = 0 ∧ Op.bytesLess (bs m).toList (bs n).toList = false ∧ Op.bytesLess (bs (code8 x ++ m)).toList (bs (code8 y ++ n)).toList = false) ∨
    (cmpN x y = 1 ∧ Op.bytesLess (bs (code8 x ++ m)).toList (bs (code8 y ++ n)).toList = false) := by
  rw [bs_list, bs_list, bs_list, bs_list, less_behind (code8 x) (code8 y) m n rfl]
  have he := code8_eq x y hx hy
  rcases Nat.lt_trichotomy x y with h | h | h
  · rw [decide_eq_false (by omega)] at he
    refine .inl ⟨by unfold cmpN; rw [if_pos h], ?_⟩
    rw [if_neg (by simpa using he), code8_less x y hx hy]
    exact decide_eq_true h
  · subst h
    rw [if_pos rfl]
    have hc : cmpN x x = 0 := by unfold cmpN; rw [if_neg (by omega), if_neg (by omega)]
    cases hmn : Op.bytesLess m n with
    | true => exact .inr (.inl ⟨hc, rfl, rfl⟩)
    | false => exact .inr (.inr (.inl ⟨hc, rfl, rfl⟩))
  · rw [decide_eq_false (by omega)] at he
    refine .inr (.inr (.inr ⟨by unfold cmpN; rw [if_neg (by omega), if_pos h], ?_⟩))
    rw [if_neg (by simpa using he), code8_less x y hx hy]
    exact decide_eq_false (by omega)

set_option maxRecDepth 100000 in
set_option maxHeartbeats 1600000 in
theorem keys_none (a : Nat) (b : Nat) (n junk : List UInt8) (ha : a < 18446744073709551616) (hb : b < 18446744073709551616) (hn : n.length ≤ 140737488351232) (w : World) (hm : MaxIs w) :
    Calls Tryd.prog 8 #[.int .u64 (a : Int), .string (bs []), .int .u64 (b : Int), .string (bs n), .string (bs junk)] w (True1 w) := by
  have Hm := hm
  clear hm
  have hf := frombits_nat
  have c1 := Lib.hid (key_any a ha [] (by simp))
  have c2 := Lib.hid (key_any b hb n hn)
  have c3 := Lib.hid (parts_key_none a ha)
  have hem : (bs []).toList.isEmpty = true := by rw [bs_list]; rfl
  generalize code8 (code a) ++ [] = p at *
  generalize code8 (code b) ++ n = q at *
  go_enter Tryd.func8, Tryd.ntmps8
  go_wp2_with fail
  refine (c1.out w).mono ?_
  rintro e w1 ⟨rfl, k1⟩
  go_wp2_with fail
  refine (c2.out w1).mono ?_
  rintro e w2 ⟨rfl, k2⟩
  have b2 := k1.trans (k2.mono k1.size)
  clear k1 k2
  go_wp2_with fail
  refine (c3.out w2).mono ?_
  rintro e w3 ⟨rfl, k3⟩
  have b3 := b2.trans (k3.mono b2.size)
  clear k3 b2
  go_wp2_with fail
  refine (awake_any w3 (Hm.below b3)).mono ?_
  rintro e w7 ⟨rfl, k7⟩
  have b7 := b3.trans (k7.mono b3.size)
  clear k7 b3
  go_wp2
  go_ret
  exact ⟨rfl, b7⟩

set_option maxRecDepth 100000 in
set_option maxHeartbeats 12800000 in
theorem keys_some (a : Nat) (m : List UInt8) (b : Nat) (n junk : List UInt8) (hne : m ≠ []) (ha : a < 18446744073709551616) (hb : b < 18446744073709551616) (hml : m.length ≤ 140737488351232) (hn : n.length ≤ 140737488351232) (hj : junk.length ≤ 140737488351232) (w : World) (hm : MaxIs w) :
    Calls Tryd.prog 8 #[.int .u64 (a : Int), .string (bs m), .int .u64 (b : Int), .string (bs n), .string (bs junk)] w (True1 w) := by
  have Hm := hm
  clear hm
  have hf := frombits_nat
  have c1 := Lib.hid (key_any a ha m hml)
  have c2 := Lib.hid (key_any b hb n hn)
  have c3 := Lib.hid (parts_key a ha m hml hne)
  have c6 := Lib.hid (refCmp_any a b ha hb)
  have c9 := Lib.hid (fun w => (sameBits_back a ha w).2)
  have c10 := Lib.hid sameBits_eq
  have h3 := keys_stand (code a) (code b) (code_lt ha) (code_lt hb) m n
  have hmem : (bs m).toList.isEmpty = false := by rw [bs_list]; cases m with | nil => exact absurd rfl hne | cons _ _ => rfl
  have hb0 : ∀ w, (callFunc 27 #[.float .f64 0]).run Tryd.prog w = .ok (.value (.int .u64 0)) w := bits_any 0
  have c5 := refTakeScore_any junk (by omega)
  generalize (if nanB a = true then noneBits else a) = z at c3 c9
  generalize code8 (code a) ++ m = p at *
  generalize code8 (code b) ++ n = q at *
  generalize code a = ca at *
  generalize code b = cb at *
  clear hne
  by_cases ht3 : (takeS junk).2.2 = 0
  · by_cases ht2 : (takeS junk).2.1 = []
    · have c4 := Lib.hid (parts_empty junk (by omega) ht2 ht3)
      have C5 : Hid (∀ w, Calls Tryd.prog 20 #[.string (bs junk)] w fun e w' => e = .returned (.tuple #[.float .f64 (takeS junk).1, .string (bs []), .int .i64 0]) ∧ Below w.heap.size w w') := Lib.hid (fun w => (c5 w).mono (by rintro e w' ⟨rfl, hb⟩; rw [ht2, ht3]; exact ⟨rfl, hb⟩))
      have hem : (bs []).toList.isEmpty = true := by rw [bs_list]; rfl
      clear c5 ht2 ht3
      generalize (takeS junk).1 = t1 at *
      rcases h3 with ⟨hz, h1⟩ | ⟨hz, h0, h1⟩ | ⟨hz, h0, h1⟩ | ⟨hz, h1⟩
      · rw [hz] at c6
        clear hz
        go_enter Tryd.func8, Tryd.ntmps8
        go_wp2_with fail
        refine (c1.out w).mono ?_
        rintro e w1 ⟨rfl, k1⟩
        go_wp2_with fail
        refine (c2.out w1).mono ?_
        rintro e w2 ⟨rfl, k2⟩
        have b2 := k1.trans (k2.mono k1.size)
        clear k1 k2
        go_wp2_with fail
        refine (c3.out w2).mono ?_
        rintro e w3 ⟨rfl, k3⟩
        have b3 := b2.trans (k3.mono b2.size)
        clear k3 b2
        go_wp2_with fail
        refine (c9.out w3).mono ?_
        rintro e w' ⟨rfl, rfl⟩
        go_wp2_with fail
        refine (c4.out w3).mono ?_
        rintro e w4 ⟨rfl, k4⟩
        have b4 := b3.trans (k4.mono b3.size)
        clear k4 b3
        go_wp2_with fail
        refine (C5.out w4).mono ?_
        rintro e w5 ⟨rfl, k5⟩
        have b5 := b4.trans (k5.mono b4.size)
        clear k5 b4
        go_wp2_with fail
        refine (c6.out w5).mono ?_
        rintro e w' ⟨rfl, rfl⟩
        go_wp2_with fail
        refine (awake_any w5 (Hm.below b5)).mono ?_
        rintro e w7 ⟨rfl, k7⟩
        have b7 := b5.trans (k7.mono b5.size)
        clear k7 b5
        go_wp2
        go_ret
        exact ⟨rfl, b7⟩
      · rw [hz] at c6
        clear hz
        go_enter Tryd.func8, Tryd.ntmps8
        go_wp2_with fail
        refine (c1.out w).mono ?_
        rintro e w1 ⟨rfl, k1⟩
        go_wp2_with fail
        refine (c2.out w1).mono ?_
        rintro e w2 ⟨rfl, k2⟩
        have b2 := k1.trans (k2.mono k1.size)
        clear k1 k2
        go_wp2_with fail
        refine (c3.out w2).mono ?_
        rintro e w3 ⟨rfl, k3⟩
        have b3 := b2.trans (k3.mono b2.size)
        clear k3 b2
        go_wp2_with fail
        refine (c9.out w3).mono ?_
        rintro e w' ⟨rfl, rfl⟩
        go_wp2_with fail
        refine (c4.out w3).mono ?_
        rintro e w4 ⟨rfl, k4⟩
        have b4 := b3.trans (k4.mono b3.size)
        clear k4 b3
        go_wp2_with fail
        refine (C5.out w4).mono ?_
        rintro e w5 ⟨rfl, k5⟩
        have b5 := b4.trans (k5.mono b4.size)
        clear k5 b4
        go_wp2_with fail
        refine (c6.out w5).mono ?_
        rintro e w' ⟨rfl, rfl⟩
        go_wp2_with fail
        refine (awake_any w5 (Hm.below b5)).mono ?_
        rintro e w7 ⟨rfl, k7⟩
        have b7 := b5.trans (k7.mono b5.size)
        clear k7 b5
        go_wp2
        go_ret
        exact ⟨rfl, b7⟩
      · rw [hz] at c6
        clear hz
        go_enter Tryd.func8, Tryd.ntmps8
        go_wp2_with fail
        refine (c1.out w).mono ?_
        rintro e w1 ⟨rfl, k1⟩
        go_wp2_with fail
        refine (c2.out w1).mono ?_
        rintro e w2 ⟨rfl, k2⟩
        have b2 := k1.trans (k2.mono k1.size)
        clear k1 k2
        go_wp2_with fail
        refine (c3.out w2).mono ?_
        rintro e w3 ⟨rfl, k3⟩
        have b3 := b2.trans (k3.mono b2.size)
        clear k3 b2
        go_wp2_with fail
        refine (c9.out w3).mono ?_
        rintro e w' ⟨rfl, rfl⟩
        go_wp2_with fail
        refine (c4.out w3).mono ?_
        rintro e w4 ⟨rfl, k4⟩
        have b4 := b3.trans (k4.mono b3.size)
        clear k4 b3
        go_wp2_with fail
        refine (C5.out w4).mono ?_
        rintro e w5 ⟨rfl, k5⟩
        have b5 := b4.trans (k5.mono b4.size)
        clear k5 b4
        go_wp2_with fail
        refine (c6.out w5).mono ?_
        rintro e w' ⟨rfl, rfl⟩
        go_wp2_with fail
        refine (awake_any w5 (Hm.below b5)).mono ?_
        rintro e w7 ⟨rfl, k7⟩
        have b7 := b5.trans (k7.mono b5.size)
        clear k7 b5
        go_wp2
        go_ret
        exact ⟨rfl, b7⟩
      · rw [hz] at c6
        clear hz
        go_enter Tryd.func8, Tryd.ntmps8
        go_wp2_with fail
        refine (c1.out w).mono ?_
        rintro e w1 ⟨rfl, k1⟩
        go_wp2_with fail
        refine (c2.out w1).mono ?_
        rintro e w2 ⟨rfl, k2⟩
        have b2 := k1.trans (k2.mono k1.size)
        clear k1 k2
        go_wp2_with fail
        refine (c3.out w2).mono ?_
        rintro e w3 ⟨rfl, k3⟩
        have b3 := b2.trans (k3.mono b2.size)
        clear k3 b2
        go_wp2_with fail
        refine (c9.out w3).mono ?_
        rintro e w' ⟨rfl, rfl⟩
        go_wp2_with fail
        refine (c4.out w3).mono ?_
        rintro e w4 ⟨rfl, k4⟩
        have b4 := b3.trans (k4.mono b3.size)
        clear k4 b3
        go_wp2_with fail
        refine (C5.out w4).mono ?_
        rintro e w5 ⟨rfl, k5⟩
        have b5 := b4.trans (k5.mono b4.size)
        clear k5 b4
        go_wp2_with fail
        refine (c6.out w5).mono ?_
        rintro e w' ⟨rfl, rfl⟩
        go_wp2_with fail
        refine (awake_any w5 (Hm.below b5)).mono ?_
        rintro e w7 ⟨rfl, k7⟩
        have b7 := b5.trans (k7.mono b5.size)
        clear k7 b5
        go_wp2
        go_ret
        exact ⟨rfl, b7⟩
    · have c4 := Lib.hid (parts_ok junk (by omega) ht2 ht3)
      have C5 : Hid (∀ w, Calls Tryd.prog 20 #[.string (bs junk)] w fun e w' => e = .returned (.tuple #[.float .f64 (takeS junk).1, .string (bs (takeS junk).2.1), .int .i64 0]) ∧ Below w.heap.size w w') := Lib.hid (fun w => (c5 w).mono (by rintro e w' ⟨rfl, hb⟩; rw [ht3]; exact ⟨rfl, hb⟩))
      have hem : (bs (takeS junk).2.1).toList.isEmpty = false := by rw [bs_list]; cases ht : (takeS junk).2.1 with | nil => exact absurd ht ht2 | cons _ _ => rfl
      clear c5 ht2 ht3
      generalize (takeS junk).1 = t1 at *
      generalize (takeS junk).2.1 = t2 at *
      rcases h3 with ⟨hz, h1⟩ | ⟨hz, h0, h1⟩ | ⟨hz, h0, h1⟩ | ⟨hz, h1⟩
      · rw [hz] at c6
        clear hz
        go_enter Tryd.func8, Tryd.ntmps8
        go_wp2_with fail
        refine (c1.out w).mono ?_
        rintro e w1 ⟨rfl, k1⟩
        go_wp2_with fail
        refine (c2.out w1).mono ?_
        rintro e w2 ⟨rfl, k2⟩
        have b2 := k1.trans (k2.mono k1.size)
        clear k1 k2
        go_wp2_with fail
        refine (c3.out w2).mono ?_
        rintro e w3 ⟨rfl, k3⟩
        have b3 := b2.trans (k3.mono b2.size)
        clear k3 b2
        go_wp2_with fail
        refine (c9.out w3).mono ?_
        rintro e w' ⟨rfl, rfl⟩
        go_wp2_with fail
        refine (c4.out w3).mono ?_
        rintro e w4 ⟨rfl, k4⟩
        have b4 := b3.trans (k4.mono b3.size)
        clear k4 b3
        go_wp2_with fail
        refine (C5.out w4).mono ?_
        rintro e w5 ⟨rfl, k5⟩
        have b5 := b4.trans (k5.mono b4.size)
        clear k5 b4
        go_wp2_with fail
        refine (c10.out _ w5).mono ?_
        rintro e w' ⟨rfl, rfl⟩
        go_wp2_with fail
        refine (c6.out w5).mono ?_
        rintro e w' ⟨rfl, rfl⟩
        go_wp2_with fail
        refine (awake_any w5 (Hm.below b5)).mono ?_
        rintro e w7 ⟨rfl, k7⟩
        have b7 := b5.trans (k7.mono b5.size)
        clear k7 b5
        go_wp2
        go_ret
        exact ⟨rfl, b7⟩
      · rw [hz] at c6
        clear hz
        go_enter Tryd.func8, Tryd.ntmps8
        go_wp2_with fail
        refine (c1.out w).mono ?_
        rintro e w1 ⟨rfl, k1⟩
        go_wp2_with fail
        refine (c2.out w1).mono ?_
        rintro e w2 ⟨rfl, k2⟩
        have b2 := k1.trans (k2.mono k1.size)
        clear k1 k2
        go_wp2_with fail
        refine (c3.out w2).mono ?_
        rintro e w3 ⟨rfl, k3⟩
        have b3 := b2.trans (k3.mono b2.size)
        clear k3 b2
        go_wp2_with fail
        refine (c9.out w3).mono ?_
        rintro e w' ⟨rfl, rfl⟩
        go_wp2_with fail
        refine (c4.out w3).mono ?_
        rintro e w4 ⟨rfl, k4⟩
        have b4 := b3.trans (k4.mono b3.size)
        clear k4 b3
        go_wp2_with fail
        refine (C5.out w4).mono ?_
        rintro e w5 ⟨rfl, k5⟩
        have b5 := b4.trans (k5.mono b4.size)
        clear k5 b4
        go_wp2_with fail
        refine (c10.out _ w5).mono ?_
        rintro e w' ⟨rfl, rfl⟩
        go_wp2_with fail
        refine (c6.out w5).mono ?_
        rintro e w' ⟨rfl, rfl⟩
        go_wp2_with fail
        refine (awake_any w5 (Hm.below b5)).mono ?_
        rintro e w7 ⟨rfl, k7⟩
        have b7 := b5.trans (k7.mono b5.size)
        clear k7 b5
        go_wp2
        go_ret
        exact ⟨rfl, b7⟩
      · rw [hz] at c6
        clear hz
        go_enter Tryd.func8, Tryd.ntmps8
        go_wp2_with fail
        refine (c1.out w).mono ?_
        rintro e w1 ⟨rfl, k1⟩
        go_wp2_with fail
        refine (c2.out w1).mono ?_
        rintro e w2 ⟨rfl, k2⟩
        have b2 := k1.trans (k2.mono k1.size)
        clear k1 k2
        go_wp2_with fail
        refine (c3.out w2).mono ?_
        rintro e w3 ⟨rfl, k3⟩
        have b3 := b2.trans (k3.mono b2.size)
        clear k3 b2
        go_wp2_with fail
        refine (c9.out w3).mono ?_
        rintro e w' ⟨rfl, rfl⟩
        go_wp2_with fail
        refine (c4.out w3).mono ?_
        rintro e w4 ⟨rfl, k4⟩
        have b4 := b3.trans (k4.mono b3.size)
        clear k4 b3
        go_wp2_with fail
        refine (C5.out w4).mono ?_
        rintro e w5 ⟨rfl, k5⟩
        have b5 := b4.trans (k5.mono b4.size)
        clear k5 b4
        go_wp2_with fail
        refine (c10.out _ w5).mono ?_
        rintro e w' ⟨rfl, rfl⟩
        go_wp2_with fail
        refine (c6.out w5).mono ?_
        rintro e w' ⟨rfl, rfl⟩
        go_wp2_with fail
        refine (awake_any w5 (Hm.below b5)).mono ?_
        rintro e w7 ⟨rfl, k7⟩
        have b7 := b5.trans (k7.mono b5.size)
        clear k7 b5
        go_wp2
        go_ret
        exact ⟨rfl, b7⟩
      · rw [hz] at c6
        clear hz
        go_enter Tryd.func8, Tryd.ntmps8
        go_wp2_with fail
        refine (c1.out w).mono ?_
        rintro e w1 ⟨rfl, k1⟩
        go_wp2_with fail
        refine (c2.out w1).mono ?_
        rintro e w2 ⟨rfl, k2⟩
        have b2 := k1.trans (k2.mono k1.size)
        clear k1 k2
        go_wp2_with fail
        refine (c3.out w2).mono ?_
        rintro e w3 ⟨rfl, k3⟩
        have b3 := b2.trans (k3.mono b2.size)
        clear k3 b2
        go_wp2_with fail
        refine (c9.out w3).mono ?_
        rintro e w' ⟨rfl, rfl⟩
        go_wp2_with fail
        refine (c4.out w3).mono ?_
        rintro e w4 ⟨rfl, k4⟩
        have b4 := b3.trans (k4.mono b3.size)
        clear k4 b3
        go_wp2_with fail
        refine (C5.out w4).mono ?_
        rintro e w5 ⟨rfl, k5⟩
        have b5 := b4.trans (k5.mono b4.size)
        clear k5 b4
        go_wp2_with fail
        refine (c10.out _ w5).mono ?_
        rintro e w' ⟨rfl, rfl⟩
        go_wp2_with fail
        refine (c6.out w5).mono ?_
        rintro e w' ⟨rfl, rfl⟩
        go_wp2_with fail
        refine (awake_any w5 (Hm.below b5)).mono ?_
        rintro e w7 ⟨rfl, k7⟩
        have b7 := b5.trans (k7.mono b5.size)
        clear k7 b5
        go_wp2
        go_ret
        exact ⟨rfl, b7⟩
  · obtain ⟨g1, g2, _⟩ := takeS_err junk ht3
    have c4 := Lib.hid (parts_err junk (by omega) ht3)
    have C5 : Hid (∀ w, Calls Tryd.prog 20 #[.string (bs junk)] w fun e w' => e = .returned (.tuple #[.float .f64 0, .string (bs []), .int .i64 (takeS junk).2.2]) ∧ Below w.heap.size w w') := Lib.hid (fun w => (c5 w).mono (by rintro e w' ⟨rfl, hb⟩; rw [g1, g2]; exact ⟨rfl, hb⟩))
    have hem : (bs []).toList.isEmpty = true := by rw [bs_list]; rfl
    have hz1 : (((takeS junk).2.2 : Int) == 0) = false := by simp; exact ht3
    have hz2 : (((takeS junk).2.2 : Int) != 0) = true := by rw [bne, hz1]; rfl
    clear c5 g1 g2 ht3
    generalize (takeS junk).2.2 = t3 at *
    rcases h3 with ⟨hz, h1⟩ | ⟨hz, h0, h1⟩ | ⟨hz, h0, h1⟩ | ⟨hz, h1⟩
    · rw [hz] at c6
      clear hz
      go_enter Tryd.func8, Tryd.ntmps8
      go_wp2_with fail
      refine (c1.out w).mono ?_
      rintro e w1 ⟨rfl, k1⟩
      go_wp2_with fail
      refine (c2.out w1).mono ?_
      rintro e w2 ⟨rfl, k2⟩
      have b2 := k1.trans (k2.mono k1.size)
      clear k1 k2
      go_wp2_with fail
      refine (c3.out w2).mono ?_
      rintro e w3 ⟨rfl, k3⟩
      have b3 := b2.trans (k3.mono b2.size)
      clear k3 b2
      go_wp2_with fail
      refine (c9.out w3).mono ?_
      rintro e w' ⟨rfl, rfl⟩
      go_wp2_with fail
      refine (c4.out w3).mono ?_
      rintro e w4 ⟨rfl, k4⟩
      have b4 := b3.trans (k4.mono b3.size)
      clear k4 b3
      go_wp2_with fail
      refine (C5.out w4).mono ?_
      rintro e w5 ⟨rfl, k5⟩
      have b5 := b4.trans (k5.mono b4.size)
      clear k5 b4
      go_wp2_with fail
      refine (c6.out w5).mono ?_
      rintro e w' ⟨rfl, rfl⟩
      go_wp2_with fail
      refine (awake_any w5 (Hm.below b5)).mono ?_
      rintro e w7 ⟨rfl, k7⟩
      have b7 := b5.trans (k7.mono b5.size)
      clear k7 b5
      go_wp2
      go_ret
      exact ⟨rfl, b7⟩
    · rw [hz] at c6
      clear hz
      go_enter Tryd.func8, Tryd.ntmps8
      go_wp2_with fail
      refine (c1.out w).mono ?_
      rintro e w1 ⟨rfl, k1⟩
      go_wp2_with fail
      refine (c2.out w1).mono ?_
      rintro e w2 ⟨rfl, k2⟩
      have b2 := k1.trans (k2.mono k1.size)
      clear k1 k2
      go_wp2_with fail
      refine (c3.out w2).mono ?_
      rintro e w3 ⟨rfl, k3⟩
      have b3 := b2.trans (k3.mono b2.size)
      clear k3 b2
      go_wp2_with fail
      refine (c9.out w3).mono ?_
      rintro e w' ⟨rfl, rfl⟩
      go_wp2_with fail
      refine (c4.out w3).mono ?_
      rintro e w4 ⟨rfl, k4⟩
      have b4 := b3.trans (k4.mono b3.size)
      clear k4 b3
      go_wp2_with fail
      refine (C5.out w4).mono ?_
      rintro e w5 ⟨rfl, k5⟩
      have b5 := b4.trans (k5.mono b4.size)
      clear k5 b4
      go_wp2_with fail
      refine (c6.out w5).mono ?_
      rintro e w' ⟨rfl, rfl⟩
      go_wp2_with fail
      refine (awake_any w5 (Hm.below b5)).mono ?_
      rintro e w7 ⟨rfl, k7⟩
      have b7 := b5.trans (k7.mono b5.size)
      clear k7 b5
      go_wp2
      go_ret
      exact ⟨rfl, b7⟩
    · rw [hz] at c6
      clear hz
      go_enter Tryd.func8, Tryd.ntmps8
      go_wp2_with fail
      refine (c1.out w).mono ?_
      rintro e w1 ⟨rfl, k1⟩
      go_wp2_with fail
      refine (c2.out w1).mono ?_
      rintro e w2 ⟨rfl, k2⟩
      have b2 := k1.trans (k2.mono k1.size)
      clear k1 k2
      go_wp2_with fail
      refine (c3.out w2).mono ?_
      rintro e w3 ⟨rfl, k3⟩
      have b3 := b2.trans (k3.mono b2.size)
      clear k3 b2
      go_wp2_with fail
      refine (c9.out w3).mono ?_
      rintro e w' ⟨rfl, rfl⟩
      go_wp2_with fail
      refine (c4.out w3).mono ?_
      rintro e w4 ⟨rfl, k4⟩
      have b4 := b3.trans (k4.mono b3.size)
      clear k4 b3
      go_wp2_with fail
      refine (C5.out w4).mono ?_
      rintro e w5 ⟨rfl, k5⟩
      have b5 := b4.trans (k5.mono b4.size)
      clear k5 b4
      go_wp2_with fail
      refine (c6.out w5).mono ?_
      rintro e w' ⟨rfl, rfl⟩
      go_wp2_with fail
      refine (awake_any w5 (Hm.below b5)).mono ?_
      rintro e w7 ⟨rfl, k7⟩
      have b7 := b5.trans (k7.mono b5.size)
      clear k7 b5
      go_wp2
      go_ret
      exact ⟨rfl, b7⟩
    · rw [hz] at c6
      clear hz
      go_enter Tryd.func8, Tryd.ntmps8
      go_wp2_with fail
      refine (c1.out w).mono ?_
      rintro e w1 ⟨rfl, k1⟩
      go_wp2_with fail
      refine (c2.out w1).mono ?_
      rintro e w2 ⟨rfl, k2⟩
      have b2 := k1.trans (k2.mono k1.size)
      clear k1 k2
      go_wp2_with fail
      refine (c3.out w2).mono ?_
      rintro e w3 ⟨rfl, k3⟩
      have b3 := b2.trans (k3.mono b2.size)
      clear k3 b2
      go_wp2_with fail
      refine (c9.out w3).mono ?_
      rintro e w' ⟨rfl, rfl⟩
      go_wp2_with fail
      refine (c4.out w3).mono ?_
      rintro e w4 ⟨rfl, k4⟩
      have b4 := b3.trans (k4.mono b3.size)
      clear k4 b3
      go_wp2_with fail
      refine (C5.out w4).mono ?_
      rintro e w5 ⟨rfl, k5⟩
      have b5 := b4.trans (k5.mono b4.size)
      clear k5 b4
      go_wp2_with fail
      refine (c6.out w5).mono ?_
      rintro e w' ⟨rfl, rfl⟩
      go_wp2_with fail
      refine (awake_any w5 (Hm.below b5)).mono ?_
      rintro e w7 ⟨rfl, k7⟩
      have b7 := b5.trans (k7.mono b5.size)
      clear k7 b5
      go_wp2
      go_ret
      exact ⟨rfl, b7⟩

theorem keys_walk (a : Nat) (m : List UInt8) (b : Nat) (n junk : List UInt8) (ha : a < 18446744073709551616) (hml : m.length ≤ 140737488351232) (hb : b < 18446744073709551616) (hn : n.length ≤ 140737488351232) (hj : junk.length ≤ 140737488351232) (w : World) (hm : MaxIs w) :
    Calls Tryd.prog 8 #[.int .u64 (a : Int), .string (bs m), .int .u64 (b : Int), .string (bs n), .string (bs junk)] w (True1 w) := by
  by_cases hne : m = []
  · subst hne
    exact keys_none a b n junk ha hb hn w hm
  · exact keys_some a m b n junk hne ha hb hml hn hj w hm
end Go.Proofs.YtiajmjmneodfaaaDoor

