/- Least, most, mean, products; the references' own; each call's end. -/
import Derived.Test.YtohkjjmknpbdaaaSums
import Derived.Deep.QuietTactic
import Derived.BigQuiet
import Derived.RegionTactic
import Derived.BigRegion
namespace Go.Proofs.Ytohkjjmknpbdaaa
open Go.RowKit Fl

theorem posInf_lt : posInf < 18446744073709551616 := by decide
theorem negInf_lt : negInf < 18446744073709551616 := by decide

set_option maxHeartbeats 400000 in
theorem min_any (v : Value) (xs : List Nat) (w : World) (h : Fsl w v xs) : Calls Try.prog 13 #[v] w (BestEnd (bestO (-1) posInf xs) w) := by
  have H := Lib.hid h
  clear h
  go_enter Try.func13, Try.ntmps13
  go_wp2_with (first | (go_at_call 15; refine (inf_up _).mono ?_; rintro e w' ⟨rfl, rfl⟩) | (go_at_call 33; refine (best_any posInf posInf_lt (-1) _ _ _ H.out).mono ?_; rintro e w' ⟨r, rfl, rfl, hg⟩))
  go_ret
  exact ⟨r, rfl, rfl, hg⟩

set_option maxHeartbeats 400000 in
theorem max_any (v : Value) (xs : List Nat) (w : World) (h : Fsl w v xs) : Calls Try.prog 14 #[v] w (BestEnd (bestO 1 negInf xs) w) := by
  have H := Lib.hid h
  clear h
  go_enter Try.func14, Try.ntmps14
  go_wp2_with (first | (go_at_call 15; refine (inf_down _).mono ?_; rintro e w' ⟨rfl, rfl⟩) | (go_at_call 33; refine (best_any negInf negInf_lt 1 _ _ _ H.out).mono ?_; rintro e w' ⟨r, rfl, rfl, hg⟩))
  go_ret
  exact ⟨r, rfl, rfl, hg⟩

theorem cmpN_cases (x y : Nat) : cmpN x y = -1 ∨ cmpN x y = 0 ∨ cmpN x y = 1 := by
  unfold cmpN
  split
  · exact .inl rfl
  · split
    · exact .inr (.inr rfl)
    · exact .inr (.inl rfl)

theorem and_rung (b : Nat) (hb : b < 18446744073709551616) : bits .and .u64 (b : Int) 9223372036854775807 = (rung b : Nat) := by
  have h := u64_and_nat b 9223372036854775807 hb (by omega)
  rw [show ((9223372036854775807 : Nat) : Int) = 9223372036854775807 from rfl] at h
  rw [h]
  have := Nat.and_two_pow_sub_one_eq_mod b 63
  rw [show (2 : Nat) ^ 63 - 1 = 9223372036854775807 from by decide] at this
  rw [this]; rfl

theorem andNot_rung (b : Nat) (hb : b < 18446744073709551616) : bits .andNot .u64 (b : Int) 9223372036854775808 = (rung b : Nat) := by
  have h := u64_andNot_nat b 9223372036854775808 hb (by omega)
  rw [show ((9223372036854775808 : Nat) : Int) = 9223372036854775808 from rfl] at h
  rw [h]
  have := Nat.and_two_pow_sub_one_eq_mod b 63
  rw [show (2 : Nat) ^ 63 - 1 = 18446744073709551615 - 9223372036854775808 from by decide] at this
  rw [this]; rfl

theorem nanB_int (b : Nat) : decide ((9218868437227405312 : Int) < (rung b : Nat)) = nanB b := by
  unfold nanB INF
  rw [show (2047 * 2 ^ 52 : Nat) = 9218868437227405312 from by decide]
  by_cases h : 9218868437227405312 < rung b
  · rw [decide_eq_true h, decide_eq_true (by omega)]
  · rw [decide_eq_false h, decide_eq_false (by omega)]

set_option maxHeartbeats 400000 in
theorem refNan_any (b : Nat) (hb : b < 18446744073709551616) (w : World) : Calls Try.prog 37 #[.int .u64 b] w fun e w' => e = .returned (.bool (nanB b)) ∧ w = w' := by
  have h1 := andNot_rung b hb
  have h2 := nanB_int b
  go_enter Try.func37, Try.ntmps37
  go_wp2
  go_ret
  exact ⟨rfl, rfl⟩

set_option maxHeartbeats 400000 in
theorem nan16_any (b : Nat) (hb : b < 18446744073709551616) (w : World) : Calls Try.prog 36 #[.float .f64 b] w fun e w' => e = .returned (.bool (nanB b)) ∧ w = w' := by
  have h1 := and_rung b hb
  have h2 := nanB_int b
  have hbits := bits_any b
  go_enter Try.func36, Try.ntmps36
  go_wp2
  go_ret
  exact ⟨rfl, rfl⟩

set_option maxHeartbeats 400000 in
theorem refCode_any (b : Nat) (hb : b < 18446744073709551616) (w : World) : Calls Try.prog 44 #[.float .f64 b] w fun e w' => e = .returned (.int .u64 (code b)) ∧ w = w' := by
  have hbits := bits_any b
  by_cases hn : nanB b = true
  · have e := Lib.hid (code_nan hn)
    go_enter Try.func44, Try.ntmps44
    go_wp2_with (go_at_call 37; refine (refNan_any _ (by assumption) _).mono ?_; rintro e w' ⟨rfl, rfl⟩)
    go_ret
    exact ⟨by rw [e.out]; rfl, rfl⟩
  · have hn' : nanB b = false := by simpa using hn
    clear hn
    by_cases hs : sg b = true
    · have e := Lib.hid (code_neg hn' hs)
      have ha := and_sign b hb
      rw [if_pos hs] at ha
      have hx := not_xor b hb
      go_enter Try.func44, Try.ntmps44
      go_wp2_with (go_at_call 37; refine (refNan_any _ (by assumption) _).mono ?_; rintro e w' ⟨rfl, rfl⟩)
      go_ret
      exact ⟨by rw [e.out]; rfl, rfl⟩
    · have hs' : sg b = false := by simpa using hs
      clear hs
      have e := Lib.hid (code_pos hn' hs')
      have ha := and_sign b hb
      rw [if_neg (by simp [hs'])] at ha
      have ho := or_sign b hb hs'
      go_enter Try.func44, Try.ntmps44
      go_wp2_with (go_at_call 37; refine (refNan_any _ (by assumption) _).mono ?_; rintro e w' ⟨rfl, rfl⟩)
      go_ret
      exact ⟨by rw [e.out]; rfl, rfl⟩

set_option maxHeartbeats 800000 in
theorem refCmp_any (a b : Nat) (ha : a < 18446744073709551616) (hb : b < 18446744073709551616) (w : World) :
    Calls Try.prog 38 #[.float .f64 a, .float .f64 b] w fun e w' => e = .returned (.int .i64 (cmpN (code a) (code b))) ∧ w = w' := by
  rcases Nat.lt_trichotomy (code a) (code b) with h | h | h
  · have e : Hid (cmpN (code a) (code b) = -1) := Lib.hid (by unfold cmpN; rw [if_pos h])
    have h' : (code a : Int) < code b := by omega
    go_enter Try.func38, Try.ntmps38
    go_wp2_with fail
    refine (refCode_any a ha _).mono ?_
    rintro e w' ⟨rfl, rfl⟩
    go_wp2_with fail
    refine (refCode_any b hb _).mono ?_
    rintro e w' ⟨rfl, rfl⟩
    go_wp2
    go_ret
    exact ⟨by rw [e.out]; rfl, rfl⟩
  · have e : Hid (cmpN (code a) (code b) = 0) := Lib.hid (by unfold cmpN; rw [if_neg (by omega), if_neg (by omega)])
    have h1 : ¬ (code a : Int) < code b := by omega
    have h2 : ¬ (code b : Int) < code a := by omega
    clear h
    go_enter Try.func38, Try.ntmps38
    go_wp2_with fail
    refine (refCode_any a ha _).mono ?_
    rintro e w' ⟨rfl, rfl⟩
    go_wp2_with fail
    refine (refCode_any b hb _).mono ?_
    rintro e w' ⟨rfl, rfl⟩
    go_wp2
    go_ret
    exact ⟨by rw [e.out]; rfl, rfl⟩
  · have e : Hid (cmpN (code a) (code b) = 1) := Lib.hid (by unfold cmpN; rw [if_neg (by omega), if_pos h])
    have h1 : ¬ (code a : Int) < code b := by omega
    have h2 : (code b : Int) < code a := by omega
    clear h
    go_enter Try.func38, Try.ntmps38
    go_wp2_with fail
    refine (refCode_any a ha _).mono ?_
    rintro e w' ⟨rfl, rfl⟩
    go_wp2_with fail
    refine (refCode_any b hb _).mono ?_
    rintro e w' ⟨rfl, rfl⟩
    go_wp2
    go_ret
    exact ⟨by rw [e.out]; rfl, rfl⟩

set_option maxHeartbeats 400000 in
theorem least_none (a : Option Addr) (c : Nat) (w : World) : Calls Try.prog 27 #[.slice a 0 c] w (BestEnd (some posInf) w) := by
  go_enter Try.func27, Try.ntmps27
  go_wp2_with (go_at_call 15; refine (inf_up _).mono ?_; rintro e w' ⟨rfl, rfl⟩)
  go_loop [3, 4] (fun s i => s = .float .f64 9218868437227405312 ∧ i = .int .i64 0) (fun _ i => 0)
  case atStart => exact ⟨rfl, rfl⟩
  case round =>
    obtain ⟨rfl, rfl⟩ := hrel
    go_wp2
    go_ret
    exact ⟨posInf, rfl, rfl, posInf_lt, rfl⟩

set_option maxHeartbeats 1000000 in
theorem least_some (xs : List Nat) (hx64 : ∀ x ∈ xs, x < 18446744073709551616) (hl : xs.length ≤ 140737488355328) (b off c : Nat) (w : World)
    (hc : ∀ i, i < xs.length → w.cell? ⟨b, off + i, none⟩ = some (.float .f64 (xs.getD i 0))) :
    Calls Try.prog 27 #[.slice (some ⟨b, off, none⟩) xs.length c] w (BestEnd (bestO (-1) posInf xs) w) := by
  have hbits := bits_any
  go_enter Try.func27, Try.ntmps27
  go_wp2_with (go_at_call 15; refine (inf_up _).mono ?_; rintro e w' ⟨rfl, rfl⟩)
  go_loop [3, 4] (fun s i => BestRel (-1) posInf xs s i) (fun _ i => xs.length - (intOf i).toNat)
  case atStart => exact ⟨0, posInf, Nat.zero_le _, rfl, rfl, posInf_lt, rfl⟩
  case round =>
    obtain ⟨k, m, hk, rfl, rfl, hm, hf⟩ := hrel
    by_cases hlt : k < xs.length
    · have hcell := hc k hlt
      have hsn := Lib.hid (bestO_snoc (-1) posInf xs k hlt)
      have hF := Lib.hid hf
      have hx0 : xs.getD k 0 < 18446744073709551616 := by
        rw [List.getD_eq_getElem?_getD, List.getElem?_eq_getElem hlt]; exact hx64 _ (List.getElem_mem _)
      have hno := Lib.hid (bestO_none (-1) posInf xs (k + 1))
      clear hc hf hx64
      generalize hX : xs.getD k 0 = x at *
      clear hX
      by_cases hn : nanB x = true
      · have hnone : Hid (bestO (-1) posInf xs = none) := Lib.hid (hno.out (by rw [hsn.out, hF.out]; simp [bestStep, hn]))
        clear hsn hF hno
        go_wp2_with (first | (go_at_call 37; refine (refNan_any _ (by assumption) _).mono ?_; rintro e w' ⟨rfl, rfl⟩) | (go_at_call 16; refine (nan_any _).mono ?_; rintro e w' ⟨rfl, rfl⟩))
        go_ret
        exact ⟨_, rfl, rfl, by rw [hnone.out]; exact gives_nan⟩
      · have hn' : nanB x = false := by simpa using hn
        clear hn hno
        by_cases ha : cmpN (code x) (code m) = -1
        · have hs : Hid ((xs.take (k + 1)).foldl (bestStep (-1)) (some posInf) = some x) := Lib.hid (by rw [hsn.out, hF.out]; simp [bestStep, hn', ha])
          have hd : cmpN (code x) (code m) < 0 := by omega
          clear hsn hF ha
          go_wp2_with (first | (go_at_call 37; refine (refNan_any _ (by assumption) _).mono ?_; rintro e w' ⟨rfl, rfl⟩) | (go_at_call 38; refine (refCmp_any _ _ (by assumption) (by assumption) _).mono ?_; rintro e w' ⟨rfl, rfl⟩))
          go_round
          case rel => exact ⟨k + 1, x, by omega, by go_num, rfl, hx0, hs.out⟩
          case measure => simp [intOf]; omega
        · have hs : Hid ((xs.take (k + 1)).foldl (bestStep (-1)) (some posInf) = some m) := Lib.hid (by rw [hsn.out, hF.out]; simp [bestStep, hn', ha])
          have hd : ¬ cmpN (code x) (code m) < 0 := by have := cmpN_cases (code x) (code m); omega
          clear hsn hF ha
          go_wp2_with (first | (go_at_call 37; refine (refNan_any _ (by assumption) _).mono ?_; rintro e w' ⟨rfl, rfl⟩) | (go_at_call 38; refine (refCmp_any _ _ (by assumption) (by assumption) _).mono ?_; rintro e w' ⟨rfl, rfl⟩))
          go_round
          case rel => exact ⟨k + 1, m, by omega, by go_num, rfl, hm, hs.out⟩
          case measure => simp [intOf]; omega
    · have hg := bestRel_end (by omega) hf hm
      clear hc hf
      go_wp2
      go_ret
      exact ⟨m, rfl, rfl, hg⟩

theorem least_any (v : Value) (xs : List Nat) (w : World) (h : Fsl w v xs) :
    Calls Try.prog 27 #[v] w (BestEnd (bestO (-1) posInf xs) w) := by
  obtain ⟨h1, h2, h | h⟩ := h
  · obtain ⟨rfl, a, c, rfl⟩ := h
    exact least_none a c w
  · obtain ⟨_, b, off, c, rfl, hc⟩ := h
    exact least_some xs h1 h2 b off c w hc

set_option maxHeartbeats 400000 in
theorem most_none (a : Option Addr) (c : Nat) (w : World) : Calls Try.prog 28 #[.slice a 0 c] w (BestEnd (some negInf) w) := by
  go_enter Try.func28, Try.ntmps28
  go_wp2_with (go_at_call 15; refine (inf_down _).mono ?_; rintro e w' ⟨rfl, rfl⟩)
  go_loop [3, 4] (fun s i => s = .float .f64 18442240474082181120 ∧ i = .int .i64 0) (fun _ i => 0)
  case atStart => exact ⟨rfl, rfl⟩
  case round =>
    obtain ⟨rfl, rfl⟩ := hrel
    go_wp2
    go_ret
    exact ⟨negInf, rfl, rfl, negInf_lt, rfl⟩

set_option maxHeartbeats 1000000 in
theorem most_some (xs : List Nat) (hx64 : ∀ x ∈ xs, x < 18446744073709551616) (hl : xs.length ≤ 140737488355328) (b off c : Nat) (w : World)
    (hc : ∀ i, i < xs.length → w.cell? ⟨b, off + i, none⟩ = some (.float .f64 (xs.getD i 0))) :
    Calls Try.prog 28 #[.slice (some ⟨b, off, none⟩) xs.length c] w (BestEnd (bestO (1) negInf xs) w) := by
  have hbits := bits_any
  go_enter Try.func28, Try.ntmps28
  go_wp2_with (go_at_call 15; refine (inf_down _).mono ?_; rintro e w' ⟨rfl, rfl⟩)
  go_loop [3, 4] (fun s i => BestRel (1) negInf xs s i) (fun _ i => xs.length - (intOf i).toNat)
  case atStart => exact ⟨0, negInf, Nat.zero_le _, rfl, rfl, negInf_lt, rfl⟩
  case round =>
    obtain ⟨k, m, hk, rfl, rfl, hm, hf⟩ := hrel
    by_cases hlt : k < xs.length
    · have hcell := hc k hlt
      have hsn := Lib.hid (bestO_snoc (1) negInf xs k hlt)
      have hF := Lib.hid hf
      have hx0 : xs.getD k 0 < 18446744073709551616 := by
        rw [List.getD_eq_getElem?_getD, List.getElem?_eq_getElem hlt]; exact hx64 _ (List.getElem_mem _)
      have hno := Lib.hid (bestO_none (1) negInf xs (k + 1))
      clear hc hf hx64
      generalize hX : xs.getD k 0 = x at *
      clear hX
      by_cases hn : nanB x = true
      · have hnone : Hid (bestO (1) negInf xs = none) := Lib.hid (hno.out (by rw [hsn.out, hF.out]; simp [bestStep, hn]))
        clear hsn hF hno
        go_wp2_with (first | (go_at_call 37; refine (refNan_any _ (by assumption) _).mono ?_; rintro e w' ⟨rfl, rfl⟩) | (go_at_call 16; refine (nan_any _).mono ?_; rintro e w' ⟨rfl, rfl⟩))
        go_ret
        exact ⟨_, rfl, rfl, by rw [hnone.out]; exact gives_nan⟩
      · have hn' : nanB x = false := by simpa using hn
        clear hn hno
        by_cases ha : cmpN (code x) (code m) = 1
        · have hs : Hid ((xs.take (k + 1)).foldl (bestStep (1)) (some negInf) = some x) := Lib.hid (by rw [hsn.out, hF.out]; simp [bestStep, hn', ha])
          have hd : 0 < cmpN (code x) (code m) := by omega
          clear hsn hF ha
          go_wp2_with (first | (go_at_call 37; refine (refNan_any _ (by assumption) _).mono ?_; rintro e w' ⟨rfl, rfl⟩) | (go_at_call 38; refine (refCmp_any _ _ (by assumption) (by assumption) _).mono ?_; rintro e w' ⟨rfl, rfl⟩))
          go_round
          case rel => exact ⟨k + 1, x, by omega, by go_num, rfl, hx0, hs.out⟩
          case measure => simp [intOf]; omega
        · have hs : Hid ((xs.take (k + 1)).foldl (bestStep (1)) (some negInf) = some m) := Lib.hid (by rw [hsn.out, hF.out]; simp [bestStep, hn', ha])
          have hd : ¬ 0 < cmpN (code x) (code m) := by have := cmpN_cases (code x) (code m); omega
          clear hsn hF ha
          go_wp2_with (first | (go_at_call 37; refine (refNan_any _ (by assumption) _).mono ?_; rintro e w' ⟨rfl, rfl⟩) | (go_at_call 38; refine (refCmp_any _ _ (by assumption) (by assumption) _).mono ?_; rintro e w' ⟨rfl, rfl⟩))
          go_round
          case rel => exact ⟨k + 1, m, by omega, by go_num, rfl, hm, hs.out⟩
          case measure => simp [intOf]; omega
    · have hg := bestRel_end (by omega) hf hm
      clear hc hf
      go_wp2
      go_ret
      exact ⟨m, rfl, rfl, hg⟩

theorem most_any (v : Value) (xs : List Nat) (w : World) (h : Fsl w v xs) :
    Calls Try.prog 28 #[v] w (BestEnd (bestO (1) negInf xs) w) := by
  obtain ⟨h1, h2, h | h⟩ := h
  · obtain ⟨rfl, a, c, rfl⟩ := h
    exact most_none a c w
  · obtain ⟨_, b, off, c, rfl, hc⟩ := h
    exact most_some xs h1 h2 b off c w hc

end Go.Proofs.Ytohkjjmknpbdaaa
