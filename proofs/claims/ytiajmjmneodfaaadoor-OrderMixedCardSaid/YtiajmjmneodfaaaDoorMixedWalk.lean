/- OrderMixed answers true: the walk. The names are of a length that a text may have; the library's variable internal/bytealg.MaxLen holds some int. (Printed by mkmixed.py.) -/
import Derived.Test.YtiajmjmneodfaaaDoorParts
import Derived.Test.YtiajmjmneodfaaaDoorNextWalk
namespace Go.Proofs.YtiajmjmneodfaaaDoor
open Go.RowKit Fl

theorem code_max {b : Nat} (hb : b < 18446744073709551616) (hn : nanB b = false) : code b < 18446744073709551615 := by
  by_cases hs : sg b = true
  · rw [code_neg hn hs]
    have : 9223372036854775808 ≤ b := by unfold sg at hs; simp at hs; omega
    omega
  · have hs' : sg b = false := by simpa using hs
    rw [code_pos hn hs']
    have h1 := of_nanB_false hn
    have h2 : rung b = b := by
      have : b < 9223372036854775808 := by unfold sg at hs'; simp at hs'; omega
      unfold rung; omega
    unfold INF at h1
    omega

theorem trim_all (l : List UInt8) (h : ∀ i, i < l.length → l.getD i 0 = 255) : ∀ n, n ≤ l.length → trimN l n = 0
  | 0, _ => rfl
  | n + 1, hn => by
    rw [trimN, if_pos (h n (by omega))]
    exact trim_all l h n (by omega)

theorem word_255 : ∀ l : List UInt8, (∀ i, i < l.length → l.getD i 0 = 255) → wordL l + 1 = 256 ^ l.length
  | [], _ => rfl
  | b :: r, h => by
    have h0 : b = 255 := h 0 (by simp)
    have hr := word_255 r (fun i hi => by have := h (i + 1) (by simpa using hi); simpa using this)
    subst h0
    rw [wordL, List.length_cons, Nat.pow_succ, ← hr]
    have : (255 : UInt8).toNat = 255 := rfl
    rw [this]; omega

/-- there is no text above all that begin with the code of none; above all others there is -/
theorem cut_code (c : Nat) (h : c < 18446744073709551615) : cutN (code8 c) ≠ 0 := by
  intro h0
  have := word_255 (code8 c) (fun i hi => all_255 h0 i hi)
  rw [code8_word c (by omega), code8_len] at this
  omega
theorem cut_max : cutN (code8 18446744073709551615) = 0 := by decide

/-- a key stands below the next text -/
theorem key_below (c : Nat) (h : c < 18446744073709551615) (m : List UInt8) : Op.bytesLess (bs (code8 c ++ m)).toList (bs (nextL (code8 c))).toList = true := by
  rw [bs_list, bs_list]
  have hb := between (cut_code c h) (code8 c ++ m)
  have hp : (code8 c).isPrefixOf (code8 c ++ m) = true := by simp
  rw [hp] at hb
  simp only [Bool.true_eq, Bool.and_eq_true] at hb
  exact hb.2

/-- the next text does not stand above a greater key -/
theorem next_below (c d : Nat) (h : c < d) (hd : d < 18446744073709551616) (n : List UInt8) :
    (Op.bytesLess (bs (nextL (code8 c))).toList (bs (code8 d ++ n)).toList || ((bs (nextL (code8 c))).toList == (bs (code8 d ++ n)).toList)) = true := by
  rw [bs_list, bs_list]
  have hb := between (cut_code c (by omega)) (code8 d ++ n)
  have hne : code8 c ≠ code8 d := by
    intro e
    have := congrArg wordL e
    rw [code8_word c (by omega), code8_word d hd] at this
    omega
  have hp : (code8 c).isPrefixOf (code8 d ++ n) = false := by
    rw [prefix_take, code8_len, List.take_left' (code8_len d)]
    simp
    exact fun _ e => hne e.symm
  have hl : Op.bytesLess (code8 d ++ n) (code8 c) = false := by
    have := less_behind (code8 d) (code8 c) n [] rfl
    rw [List.append_nil, if_neg (Ne.symm hne), code8_less d c hd (by omega)] at this
    rw [this]
    exact decide_eq_false (by omega)
  rw [hp, hl] at hb
  simp only [Bool.not_false, Bool.true_and] at hb
  by_cases he : nextL (code8 c) = code8 d ++ n
  · rw [he]; simp
  · rw [less_total (Ne.symm he) hb.symm]; rfl

theorem keys_less (c d : Nat) (h : c < d) (hd : d < 18446744073709551616) (m n : List UInt8) : Op.bytesLess (bs (code8 c ++ m)).toList (bs (code8 d ++ n)).toList = true := by
  rw [bs_list, bs_list, less_behind (code8 c) (code8 d) m n rfl]
  have he := code8_eq c d (by omega) hd
  rw [decide_eq_false (by omega)] at he
  rw [if_neg (by simpa using he), code8_less c d (by omega) hd]
  exact decide_eq_true h

set_option maxHeartbeats 400000 in
theorem same_any (a b : Nat) (ha : a < 18446744073709551616) (hb : b < 18446744073709551616) (w : World) : Calls Tryd.prog 28 #[.float .f64 a, .float .f64 b] w fun e w' => e = .returned (.bool (decide (code a = code b))) ∧ w = w' := by
  go_enter Tryd.func28, Tryd.ntmps28
  go_wp2_with fail
  refine (cmp_any a b ha hb w).mono ?_
  rintro e w' ⟨rfl, rfl⟩
  have hc : ((cmpN (code a) (code b) : Int) = 0) ↔ code a = code b := by unfold cmpN; split <;> (try split) <;> simp <;> omega
  go_wp2
  go_ret
  refine ⟨?_, rfl⟩
  have e2 : (cmpN (code a) (code b) == 0) = decide (code a = code b) := by rw [Bool.eq_iff_iff]; simp [hc]
  simp [e2]
theorem same_true {a b : Nat} (ha : a < 18446744073709551616) (hb : b < 18446744073709551616) (h : code a = code b) (w : World) : Calls Tryd.prog 28 #[.float .f64 a, .float .f64 b] w fun e w' => e = .returned (.bool true) ∧ w = w' := by
  have := same_any a b ha hb w
  rw [decide_eq_true h] at this
  exact this
theorem same_false {a b : Nat} (ha : a < 18446744073709551616) (hb : b < 18446744073709551616) (h : ¬ code a = code b) (w : World) : Calls Tryd.prog 28 #[.float .f64 a, .float .f64 b] w fun e w' => e = .returned (.bool false) ∧ w = w' := by
  have := same_any a b ha hb w
  rw [decide_eq_false h] at this
  exact this

theorem score_bs (b : Nat) (hb : b < 18446744073709551616) (w : World) : Calls Tryd.prog 18 #[.float .f64 b] w fun e w' => e = .returned (.string (bs (code8 (code b)))) ∧ Below w.heap.size w w' := score_any b hb w

theorem empty_of {m : List UInt8} (h : m ≠ []) : (bs m).toList.isEmpty = false := by rw [bs_list]; cases m with | nil => exact absurd rfl h | cons _ _ => rfl
theorem empty_nil : (bs []).toList.isEmpty = true := by rw [bs_list]; rfl
theorem neq_nan {b : Nat} (h : nanB b = true) : (FloatKind.f64.format.order b b != some .eq) = true := by rw [neq_self]; exact h
theorem neq_num {b : Nat} (h : nanB b = false) : (FloatKind.f64.format.order b b != some .eq) = false := by rw [neq_self]; exact h

set_option maxRecDepth 100000 in
set_option maxHeartbeats 3200000 in
theorem mixed_m (a : Nat) (m : List UInt8) (b : Nat) (n : List UInt8) (ha : a < 18446744073709551616) (_hb : b < 18446744073709551616) (hml : m.length ≤ 140737488351232) (_hnl : n.length ≤ 140737488351232) (he : m = []) (w : World) (hm : MaxIs w) :
    Calls Tryd.prog 9 #[.int .u64 (a : Int), .string (bs m), .int .u64 (b : Int), .string (bs n)] w (True1 w) := by
  have Hm := hm
  clear hm
  have hf := frombits_nat
  have c1 := Lib.hid (score_bs a ha)
  have c2 := Lib.hid (key_any a ha m hml)
  have hem : (bs m).toList.isEmpty = true := by rw [he]; exact empty_nil
  clear he
  by_cases hn : nanB a = true
  · have hc := code_nan hn
    have hx := neq_nan hn
    have cN := Lib.hid (next_none (code8 (code a)) (by rw [code8_len]; omega) (by rw [hc]; exact cut_max))
    clear hn hc
    generalize code8 (code a) ++ m = p at *
    generalize code8 (code a) = q at *
    go_enter Tryd.func9, Tryd.ntmps9
    go_wp2_with fail
    refine (c1.out w).mono ?_
    rintro e w1 ⟨rfl, k1⟩
    go_wp2_with fail
    refine (cN.out w1).mono ?_
    rintro e w3 ⟨rfl, k2⟩
    have b3 := k1.trans (k2.mono k1.size)
    clear k1 k2
    go_wp2_with fail
    refine (awake_any w3 (Hm.below b3)).mono ?_
    rintro e w7 ⟨rfl, k7⟩
    have b7 := b3.trans (k7.mono b3.size)
    clear k7 b3
    go_wp2
    go_ret
    exact ⟨rfl, b7⟩
  · have hn' : nanB a = false := by simpa using hn
    have hx := neq_num hn'
    have hlt := code_max ha hn'
    have cN := Lib.hid (next_some (code8 (code a)) (by rw [code8_len]; omega) (cut_code _ hlt))
    have hk := key_below (code a) hlt m
    clear hn hn' hlt
    generalize code8 (code a) ++ m = p at *
    generalize nextL (code8 (code a)) = k at *
    generalize code8 (code a) = q at *
    go_enter Tryd.func9, Tryd.ntmps9
    go_wp2_with fail
    refine (c1.out w).mono ?_
    rintro e w1 ⟨rfl, k1⟩
    go_wp2_with fail
    refine (cN.out w1).mono ?_
    rintro e w3 ⟨rfl, k2⟩
    have b3 := k1.trans (k2.mono k1.size)
    clear k1 k2
    go_wp2_with fail
    refine (awake_any w3 (Hm.below b3)).mono ?_
    rintro e w7 ⟨rfl, k7⟩
    have b7 := b3.trans (k7.mono b3.size)
    clear k7 b3
    go_wp2
    go_ret
    exact ⟨rfl, b7⟩

set_option maxRecDepth 100000 in
set_option maxHeartbeats 3200000 in
theorem mixed_n (a : Nat) (m : List UInt8) (b : Nat) (n : List UInt8) (ha : a < 18446744073709551616) (_hb : b < 18446744073709551616) (hml : m.length ≤ 140737488351232) (_hnl : n.length ≤ 140737488351232) (he : m ≠ []) (he2 : n = []) (w : World) (hm : MaxIs w) :
    Calls Tryd.prog 9 #[.int .u64 (a : Int), .string (bs m), .int .u64 (b : Int), .string (bs n)] w (True1 w) := by
  have Hm := hm
  clear hm
  have hf := frombits_nat
  have c1 := Lib.hid (score_bs a ha)
  have c2 := Lib.hid (key_any a ha m hml)
  have hem := empty_of he
  have hen : (bs n).toList.isEmpty = true := by rw [he2]; exact empty_nil
  clear he he2
  by_cases hn : nanB a = true
  · have hc := code_nan hn
    have hx := neq_nan hn
    have cN := Lib.hid (next_none (code8 (code a)) (by rw [code8_len]; omega) (by rw [hc]; exact cut_max))
    clear hn hc
    generalize code8 (code a) ++ m = p at *
    generalize code8 (code a) = q at *
    go_enter Tryd.func9, Tryd.ntmps9
    go_wp2_with fail
    refine (c1.out w).mono ?_
    rintro e w1 ⟨rfl, k1⟩
    go_wp2_with fail
    refine (cN.out w1).mono ?_
    rintro e w3 ⟨rfl, k2⟩
    have b3 := k1.trans (k2.mono k1.size)
    clear k1 k2
    go_wp2_with fail
    refine (awake_any w3 (Hm.below b3)).mono ?_
    rintro e w7 ⟨rfl, k7⟩
    have b7 := b3.trans (k7.mono b3.size)
    clear k7 b3
    go_wp2
    go_ret
    exact ⟨rfl, b7⟩
  · have hn' : nanB a = false := by simpa using hn
    have hx := neq_num hn'
    have hlt := code_max ha hn'
    have cN := Lib.hid (next_some (code8 (code a)) (by rw [code8_len]; omega) (cut_code _ hlt))
    have hk := key_below (code a) hlt m
    clear hn hn' hlt
    generalize code8 (code a) ++ m = p at *
    generalize nextL (code8 (code a)) = k at *
    generalize code8 (code a) = q at *
    go_enter Tryd.func9, Tryd.ntmps9
    go_wp2_with fail
    refine (c1.out w).mono ?_
    rintro e w1 ⟨rfl, k1⟩
    go_wp2_with fail
    refine (cN.out w1).mono ?_
    rintro e w2 ⟨rfl, k2⟩
    have b2 := k1.trans (k2.mono k1.size)
    clear k1 k2
    go_wp2_with fail
    refine (c2.out w2).mono ?_
    rintro e w3 ⟨rfl, k3⟩
    have b3 := b2.trans (k3.mono b2.size)
    clear k3 b2
    go_wp2_with fail
    refine (awake_any w3 (Hm.below b3)).mono ?_
    rintro e w7 ⟨rfl, k7⟩
    have b7 := b3.trans (k7.mono b3.size)
    clear k7 b3
    go_wp2
    go_ret
    exact ⟨rfl, b7⟩

set_option maxRecDepth 100000 in
set_option maxHeartbeats 3200000 in
theorem mixed_same (a : Nat) (m : List UInt8) (b : Nat) (n : List UInt8) (ha : a < 18446744073709551616) (hb : b < 18446744073709551616) (hml : m.length ≤ 140737488351232) (_hnl : n.length ≤ 140737488351232) (he : m ≠ []) (he2 : n ≠ []) (hsame : code a = code b) (w : World) (hm : MaxIs w) :
    Calls Tryd.prog 9 #[.int .u64 (a : Int), .string (bs m), .int .u64 (b : Int), .string (bs n)] w (True1 w) := by
  have Hm := hm
  clear hm
  have hf := frombits_nat
  have c1 := Lib.hid (score_bs a ha)
  have c2 := Lib.hid (key_any a ha m hml)
  have hem := empty_of he
  have hen := empty_of he2
  have cS := Lib.hid (same_true ha hb hsame)
  clear he he2 hsame
  by_cases hn : nanB a = true
  · have hc := code_nan hn
    have hx := neq_nan hn
    have cN := Lib.hid (next_none (code8 (code a)) (by rw [code8_len]; omega) (by rw [hc]; exact cut_max))
    clear hn hc
    generalize code8 (code a) ++ m = p at *
    generalize code8 (code a) = q at *
    go_enter Tryd.func9, Tryd.ntmps9
    go_wp2_with fail
    refine (cS.out w).mono ?_
    rintro e w' ⟨rfl, rfl⟩
    go_wp2_with fail
    refine (c1.out w).mono ?_
    rintro e w1 ⟨rfl, k1⟩
    go_wp2_with fail
    refine (cN.out w1).mono ?_
    rintro e w3 ⟨rfl, k2⟩
    have b3 := k1.trans (k2.mono k1.size)
    clear k1 k2
    go_wp2_with fail
    refine (awake_any w3 (Hm.below b3)).mono ?_
    rintro e w7 ⟨rfl, k7⟩
    have b7 := b3.trans (k7.mono b3.size)
    clear k7 b3
    go_wp2
    go_ret
    exact ⟨rfl, b7⟩
  · have hn' : nanB a = false := by simpa using hn
    have hx := neq_num hn'
    have hlt := code_max ha hn'
    have cN := Lib.hid (next_some (code8 (code a)) (by rw [code8_len]; omega) (cut_code _ hlt))
    have hk := key_below (code a) hlt m
    clear hn hn' hlt
    generalize code8 (code a) ++ m = p at *
    generalize nextL (code8 (code a)) = k at *
    generalize code8 (code a) = q at *
    go_enter Tryd.func9, Tryd.ntmps9
    go_wp2_with fail
    refine (cS.out w).mono ?_
    rintro e w' ⟨rfl, rfl⟩
    go_wp2_with fail
    refine (c1.out w).mono ?_
    rintro e w1 ⟨rfl, k1⟩
    go_wp2_with fail
    refine (cN.out w1).mono ?_
    rintro e w2 ⟨rfl, k2⟩
    have b2 := k1.trans (k2.mono k1.size)
    clear k1 k2
    go_wp2_with fail
    refine (c2.out w2).mono ?_
    rintro e w3 ⟨rfl, k3⟩
    have b3 := b2.trans (k3.mono b2.size)
    clear k3 b2
    go_wp2_with fail
    refine (awake_any w3 (Hm.below b3)).mono ?_
    rintro e w7 ⟨rfl, k7⟩
    have b7 := b3.trans (k7.mono b3.size)
    clear k7 b3
    go_wp2
    go_ret
    exact ⟨rfl, b7⟩

set_option maxRecDepth 100000 in
set_option maxHeartbeats 3200000 in
theorem mixed_less (a : Nat) (m : List UInt8) (b : Nat) (n : List UInt8) (ha : a < 18446744073709551616) (hb : b < 18446744073709551616) (hml : m.length ≤ 140737488351232) (hnl : n.length ≤ 140737488351232) (he : m ≠ []) (he2 : n ≠ []) (hlt : code a < code b) (w : World) (hm : MaxIs w) :
    Calls Tryd.prog 9 #[.int .u64 (a : Int), .string (bs m), .int .u64 (b : Int), .string (bs n)] w (True1 w) := by
  have Hm := hm
  clear hm
  have hf := frombits_nat
  have hem := empty_of he
  have hen := empty_of he2
  have cS := Lib.hid (same_false ha hb (by omega))
  have cC := cmp_any a b ha hb
  have hcv : cmpN (code a) (code b) = -1 := by unfold cmpN; rw [if_pos hlt]
  rw [hcv] at cC
  have CC := Lib.hid cC
  have c1 := Lib.hid (key_any a ha m hml)
  have c2 := Lib.hid (key_any b hb n hnl)
  have c3 := Lib.hid (score_bs a ha)
  have hlb := code_lt hb
  have cN := Lib.hid (next_some (code8 (code a)) (by rw [code8_len]; omega) (cut_code _ (by omega)))
  have c4 := Lib.hid (parts_key a ha m hml he)
  have c5 := Lib.hid (fun w => (sameBits_back a ha w).1)
  have f1 := keys_less (code a) (code b) hlt hlb m n
  have f2 := key_below (code a) (by omega) m
  have f3 := next_below (code a) (code b) hlt hlb n
  clear he he2 hlt hcv cC hlb
  generalize (if nanB a = true then noneBits else a) = z at *
  generalize code8 (code a) ++ m = lo at *
  generalize code8 (code b) ++ n = hi at *
  generalize nextL (code8 (code a)) = k at *
  generalize code8 (code a) = q at *
  go_enter Tryd.func9, Tryd.ntmps9
  go_wp2_with fail
  refine (cS.out w).mono ?_
  rintro e w' ⟨rfl, rfl⟩
  go_wp2_with fail
  refine (c1.out w).mono ?_
  rintro e w1 ⟨rfl, k1⟩
  go_wp2_with fail
  refine (c2.out w1).mono ?_
  rintro e w2 ⟨rfl, k2⟩
  have b2 := k1.trans (k2.mono k1.size)
  clear k1 k2
  go_wp2_with fail
  refine (CC.out w2).mono ?_
  rintro e w' ⟨rfl, rfl⟩
  go_wp2_with fail
  refine (c3.out w2).mono ?_
  rintro e w3 ⟨rfl, k3⟩
  have b3 := b2.trans (k3.mono b2.size)
  clear k3 b2
  go_wp2_with fail
  refine (cN.out w3).mono ?_
  rintro e w4 ⟨rfl, k4⟩
  have b4 := b3.trans (k4.mono b3.size)
  clear k4 b3
  go_wp2_with fail
  refine (c4.out w4).mono ?_
  rintro e w5 ⟨rfl, k5⟩
  have b5 := b4.trans (k5.mono b4.size)
  clear k5 b4
  go_wp2_with fail
  refine (c5.out w5).mono ?_
  rintro e w' ⟨rfl, rfl⟩
  go_wp2_with fail
  refine (awake_any w5 (Hm.below b5)).mono ?_
  rintro e w7 ⟨rfl, k7⟩
  have b7 := b5.trans (k7.mono b5.size)
  clear k7 b5
  go_wp2
  go_ret
  exact ⟨rfl, b7⟩

set_option maxRecDepth 100000 in
set_option maxHeartbeats 3200000 in
theorem mixed_more (a : Nat) (m : List UInt8) (b : Nat) (n : List UInt8) (ha : a < 18446744073709551616) (hb : b < 18446744073709551616) (hml : m.length ≤ 140737488351232) (hnl : n.length ≤ 140737488351232) (he : m ≠ []) (he2 : n ≠ []) (hlt : code b < code a) (w : World) (hm : MaxIs w) :
    Calls Tryd.prog 9 #[.int .u64 (a : Int), .string (bs m), .int .u64 (b : Int), .string (bs n)] w (True1 w) := by
  have Hm := hm
  clear hm
  have hf := frombits_nat
  have hem := empty_of he
  have hen := empty_of he2
  have cS := Lib.hid (same_false ha hb (by omega))
  have cC := cmp_any a b ha hb
  have hcv : cmpN (code a) (code b) = 1 := by unfold cmpN; rw [if_neg (by omega), if_pos hlt]
  rw [hcv] at cC
  have CC := Lib.hid cC
  have c1 := Lib.hid (key_any a ha m hml)
  have c2 := Lib.hid (key_any b hb n hnl)
  have c3 := Lib.hid (score_bs b hb)
  have hla := code_lt ha
  have cN := Lib.hid (next_some (code8 (code b)) (by rw [code8_len]; omega) (cut_code _ (by omega)))
  have c4 := Lib.hid (parts_key b hb n hnl he2)
  have c5 := Lib.hid (fun w => (sameBits_back b hb w).1)
  have f1 := keys_less (code b) (code a) hlt hla n m
  have f2 := key_below (code b) (by omega) n
  have f3 := next_below (code b) (code a) hlt hla m
  clear he he2 hlt hcv cC hla
  generalize (if nanB b = true then noneBits else b) = z at *
  generalize code8 (code b) ++ n = lo at *
  generalize code8 (code a) ++ m = hi at *
  generalize nextL (code8 (code b)) = k at *
  generalize code8 (code b) = q at *
  go_enter Tryd.func9, Tryd.ntmps9
  go_wp2_with fail
  refine (cS.out w).mono ?_
  rintro e w' ⟨rfl, rfl⟩
  go_wp2_with fail
  refine (c1.out w).mono ?_
  rintro e w1 ⟨rfl, k1⟩
  go_wp2_with fail
  refine (c2.out w1).mono ?_
  rintro e w2 ⟨rfl, k2⟩
  have b2 := k1.trans (k2.mono k1.size)
  clear k1 k2
  go_wp2_with fail
  refine (CC.out w2).mono ?_
  rintro e w' ⟨rfl, rfl⟩
  go_wp2_with fail
  refine (c3.out w2).mono ?_
  rintro e w3 ⟨rfl, k3⟩
  have b3 := b2.trans (k3.mono b2.size)
  clear k3 b2
  go_wp2_with fail
  refine (cN.out w3).mono ?_
  rintro e w4 ⟨rfl, k4⟩
  have b4 := b3.trans (k4.mono b3.size)
  clear k4 b3
  go_wp2_with fail
  refine (c4.out w4).mono ?_
  rintro e w5 ⟨rfl, k5⟩
  have b5 := b4.trans (k5.mono b4.size)
  clear k5 b4
  go_wp2_with fail
  refine (c5.out w5).mono ?_
  rintro e w' ⟨rfl, rfl⟩
  go_wp2_with fail
  refine (awake_any w5 (Hm.below b5)).mono ?_
  rintro e w7 ⟨rfl, k7⟩
  have b7 := b5.trans (k7.mono b5.size)
  clear k7 b5
  go_wp2
  go_ret
  exact ⟨rfl, b7⟩

theorem mixed_walk (a : Nat) (m : List UInt8) (b : Nat) (n : List UInt8) (ha : a < 18446744073709551616) (hml : m.length ≤ 140737488351232) (hb : b < 18446744073709551616) (hnl : n.length ≤ 140737488351232) (w : World) (hm : MaxIs w) :
    Calls Tryd.prog 9 #[.int .u64 (a : Int), .string (bs m), .int .u64 (b : Int), .string (bs n)] w (True1 w) := by
  by_cases he : m = []
  · exact mixed_m a m b n ha hb hml hnl he w hm
  · by_cases he2 : n = []
    · exact mixed_n a m b n ha hb hml hnl he he2 w hm
    · rcases Nat.lt_trichotomy (code a) (code b) with h | h | h
      · exact mixed_less a m b n ha hb hml hnl he he2 h w hm
      · exact mixed_same a m b n ha hb hml hnl he he2 h w hm
      · exact mixed_more a m b n ha hb hml hnl he he2 h w hm
end Go.Proofs.YtiajmjmneodfaaaDoor

