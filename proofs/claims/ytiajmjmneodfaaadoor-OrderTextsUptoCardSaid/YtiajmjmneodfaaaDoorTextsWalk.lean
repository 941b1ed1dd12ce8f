/- OrderTexts answers true: the walk. Each text has at most 1048576 bytes; the library's variable internal/bytealg.MaxLen holds some int. -/
import Derived.Test.YtiajmjmneodfaaaDoorChainsWalk
import Derived.Test.YtiajmjmneodfaaaDoorRefTake
namespace Go.Proofs.YtiajmjmneodfaaaDoor
open Go.RowKit Fl

theorem textL_inj {a b : List UInt8} (h : textL a = textL b) : a = b := by
  have h1 := takeG_text a [] []
  have h2 := takeG_text b [] []
  rw [h, h2] at h1
  injection h1 with h1
  simpa using h1.symm

set_option maxRecDepth 100000 in
set_option maxHeartbeats 6400000 in
theorem texts_walk (a b x y junk : List UInt8) (ha : a.length ≤ 1048576) (hb : b.length ≤ 1048576) (hx : x.length ≤ 1048576) (hy : y.length ≤ 1048576) (hj : junk.length ≤ 1048576) (w : World) (hm : MaxIs w) :
    Calls Tryd.prog 6 #[.string (bs a), .string (bs b), .string (bs x), .string (bs y), .string (bs junk)] w (True1 w) := by
  have Hm := hm
  clear hm
  have hta := textL_len a
  have htb := textL_len b
  have hcx : ∀ w, (Op.stringOp .add (bs (textL a)) (bs x)).run Tryd.prog w = .ok (.string (bs (textL a ++ x))) w := fun w => by
    rw [run_string_add_sum w _ _ (by simp [bs_size]; omega), bs_add]
  have c1 := Lib.hid (text_any a (by omega))
  have c2 := Lib.hid (text_any b (by omega))
  have c3 := Lib.hid (take_text a x (by simp; omega))
  have c4 := Lib.hid (take_any junk (by omega))
  have c5 := Lib.hid (refTake_any junk hj)
  have c6 := Lib.hid (refText_any a ha)
  obtain ⟨t, HT⟩ : ∃ t, Hid (takeG [] junk = t) := ⟨_, rfl⟩
  rw [HT.out] at c4 c5
  obtain ⟨t1, t2, t3⟩ := t
  by_cases hab : a = b
  · subst hab
    clear c2
    go_enter Tryd.func6, Tryd.ntmps6
    go_wp2_with fail
    refine (c1.out w Hm).mono ?_
    rintro e w1 ⟨rfl, h1⟩
    go_wp2_with fail
    refine (c1.out w1 (Hm.below h1)).mono ?_
    rintro e w2 ⟨rfl, h2⟩
    have b2 := h1.trans (h2.mono h1.size)
    clear h1 h2
    go_wp2_with fail
    refine (c3.out w2).mono ?_
    rintro e w3 ⟨rfl, h3⟩
    have b3 := b2.trans (h3.mono b2.size)
    clear h3 b2
    go_wp2_with fail
    refine (c4.out w3).mono ?_
    rintro e w4 ⟨rfl, h4⟩
    have b4 := b3.trans (h4.mono b3.size)
    clear h4 b3
    go_wp2_with fail
    refine (c5.out w4).mono ?_
    rintro e w5 ⟨rfl, h5⟩
    have b5 := b4.trans (h5.mono b4.size)
    clear h5 b4
    go_wp2_with fail
    refine (c6.out w5).mono ?_
    rintro e w6 ⟨rfl, h6⟩
    have b6 := b5.trans (h6.mono b5.size)
    clear h6 b5
    go_wp2_with fail
    refine (awake_any w6 (Hm.below b6)).mono ?_
    rintro e w7 ⟨rfl, h7⟩
    have b7 := b6.trans (h7.mono b6.size)
    clear h7 b6
    go_wp2
    go_ret
    exact ⟨rfl, b7⟩
  · have hcy : ∀ w, (Op.stringOp .add (bs (textL b)) (bs y)).run Tryd.prog w = .ok (.string (bs (textL b ++ y))) w := fun w => by
      rw [run_string_add_sum w _ _ (by simp [bs_size]; omega), bs_add]
    have e1 : ((bs a).toList == (bs b).toList) = false := by rw [bs_list, bs_list]; simpa using hab
    have e2 : ((bs (textL a)).toList == (bs (textL b)).toList) = false := by rw [bs_list, bs_list]; simp; exact fun h => hab (textL_inj h)
    have e3 : Op.bytesLess (bs (textL a ++ x)).toList (bs (textL b ++ y)).toList = Op.bytesLess (bs a).toList (bs b).toList := by rw [bs_list, bs_list, bs_list, bs_list]; exact text_less a b x y hab
    obtain ⟨p, e4⟩ : ∃ p, Op.bytesLess (bs a).toList (bs b).toList = p := ⟨_, rfl⟩
    rw [e4] at e3
    clear hab
    cases p <;>
    · go_enter Tryd.func6, Tryd.ntmps6
      go_wp2_with fail
      refine (c1.out w Hm).mono ?_
      rintro e w1 ⟨rfl, h1⟩
      go_wp2_with fail
      refine (c2.out w1 (Hm.below h1)).mono ?_
      rintro e w2 ⟨rfl, h2⟩
      have b2 := h1.trans (h2.mono h1.size)
      clear h1 h2
      go_wp2_with fail
      refine (c3.out w2).mono ?_
      rintro e w3 ⟨rfl, h3⟩
      have b3 := b2.trans (h3.mono b2.size)
      clear h3 b2
      go_wp2_with fail
      refine (c4.out w3).mono ?_
      rintro e w4 ⟨rfl, h4⟩
      have b4 := b3.trans (h4.mono b3.size)
      clear h4 b3
      go_wp2_with fail
      refine (c5.out w4).mono ?_
      rintro e w5 ⟨rfl, h5⟩
      have b5 := b4.trans (h5.mono b4.size)
      clear h5 b4
      go_wp2_with fail
      refine (c6.out w5).mono ?_
      rintro e w6 ⟨rfl, h6⟩
      have b6 := b5.trans (h6.mono b5.size)
      clear h6 b5
      go_wp2_with fail
      refine (awake_any w6 (Hm.below b6)).mono ?_
      rintro e w7 ⟨rfl, h7⟩
      have b7 := b6.trans (h7.mono b6.size)
      clear h7 b6
      go_wp2
      go_ret
      exact ⟨rfl, b7⟩
end Go.Proofs.YtiajmjmneodfaaaDoor
