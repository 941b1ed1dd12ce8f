/- The law 'CalcOnes': its plain part, and its walk: for the bits of whatever two numbers the call returns true and writes nothing that was there. -/
import Derived.Test.YtohkjjmknpbdaaaWhole
import Derived.OpenShut
namespace Go.Proofs.Ytohkjjmknpbdaaa
open Go.RowKit Fl

theorem code_inj {x y : Nat} (hx : x < 2 ^ 64) (hy : y < 2 ^ 64) (nx : nanB x = false) (ny : nanB y = false) (h : code x = code y) : x = y := by
  have rx : rung x < 2 ^ 63 := Nat.mod_lt _ (by omega)
  have ry : rung y < 2 ^ 63 := Nat.mod_lt _ (by omega)
  rw [code_form hx nx, code_form hy ny] at h
  refine word_inj hx hy ?_ ?_
  · cases h1 : sg x <;> cases h2 : sg y <;> rw [h1, h2] at h <;> simp at h <;> first | rfl | omega
  · cases h1 : sg x <;> cases h2 : sg y <;> rw [h1, h2] at h <;> simp at h <;> omega

theorem code_infs {b : Nat} (hb : b < 2 ^ 64) (hn : nanB b = false) : code b ≤ code posInf ∧ code negInf ≤ code b := by
  have h1 : code posInf = 9223372036854775808 + 9218868437227405312 := by decide +kernel
  have h2 : code negInf = 9223372036854775807 - 9218868437227405312 := by decide +kernel
  have hI : INF = 9218868437227405312 := by decide
  have hr := of_nanB_false hn
  rw [code_form hb hn, h1, h2]
  split <;> omega

theorem min_first {x : Nat} (hx : x < 2 ^ 64) (nx : nanB x = false) : bestStep (-1) (some posInf) x = some x := by
  unfold bestStep cmpN
  simp only [Option.bind_some, nx, Bool.false_eq_true, if_false]
  have h := (code_infs hx nx).1
  by_cases h1 : code x < code posInf
  · rw [if_pos h1, if_pos rfl]
  · have e : code x = code posInf := by omega
    have := code_inj hx (by decide) nx (by decide +kernel) e
    subst this
    split <;> rfl

theorem max_first {x : Nat} (hx : x < 2 ^ 64) (nx : nanB x = false) : bestStep 1 (some negInf) x = some x := by
  unfold bestStep
  simp only [Option.bind_some, nx, Bool.false_eq_true, if_false]
  have h := (code_infs hx nx).2
  by_cases h1 : code negInf < code x
  · have e : cmpN (code x) (code negInf) = 1 := by unfold cmpN; rw [if_neg (by omega), if_pos h1]
    rw [if_pos e]
  · have e : code x = code negInf := by omega
    have := code_inj hx (by decide) nx (by decide +kernel) e
    subst this
    split <;> rfl

theorem min_one {x : Nat} (hx : x < 2 ^ 64) (nx : nanB x = false) : bestO (-1) posInf [x] = some x := by
  unfold bestO; rw [List.foldl_cons, min_first hx nx]; rfl
theorem max_one {x : Nat} (hx : x < 2 ^ 64) (nx : nanB x = false) : bestO 1 negInf [x] = some x := by
  unfold bestO; rw [List.foldl_cons, max_first hx nx]; rfl

theorem min_two {x y : Nat} (hx : x < 2 ^ 64) (nx : nanB x = false) (ny : nanB y = false) : bestO (-1) posInf [x, y] = some (if cmpN (code y) (code x) < 0 then y else x) := by
  unfold bestO
  rw [List.foldl_cons, min_first hx nx, List.foldl_cons, List.foldl_nil]
  unfold bestStep
  simp only [Option.bind_some, ny, Bool.false_eq_true, if_false]
  have := cmpN_cases (code y) (code x)
  by_cases h : cmpN (code y) (code x) = -1
  · rw [if_pos h, if_pos (by omega)]
  · rw [if_neg h, if_neg (by omega)]

theorem max_two {x y : Nat} (hx : x < 2 ^ 64) (hy : y < 2 ^ 64) (nx : nanB x = false) (ny : nanB y = false) : bestO 1 negInf [x, y] = some (if cmpN (code y) (code x) < 0 then x else y) := by
  unfold bestO
  rw [List.foldl_cons, max_first hx nx, List.foldl_cons, List.foldl_nil]
  unfold bestStep
  simp only [Option.bind_some, ny, Bool.false_eq_true, if_false]
  rcases Nat.lt_trichotomy (code y) (code x) with h | h | h
  · have e : cmpN (code y) (code x) = -1 := by unfold cmpN; rw [if_pos h]
    rw [e]; rfl
  · have e := code_inj hy hx ny nx h
    subst e
    split <;> split <;> rfl
  · have e : cmpN (code y) (code x) = 1 := by unfold cmpN; rw [if_neg (by omega), if_pos h]
    rw [e]; rfl

theorem best_nan (ahead : Int) (m : Nat) (x y : Nat) (h : nanB x = true ∨ nanB y = true) : bestO ahead m [x, y] = none := by
  unfold bestO
  rw [List.foldl_cons, List.foldl_cons, List.foldl_nil]
  by_cases hx : nanB x = true
  · simp [bestStep, hx]
  · have hy : nanB y = true := by rcases h with h | h; exact absurd h hx; exact h
    unfold bestStep
    cases ((some m).bind fun m => if nanB x = true then none else if cmpN (code x) (code m) = ahead then some x else some m) with
    | none => rfl
    | some q => simp [hy]

theorem posInf_rung {x : Nat} (h : rung x = INF) (hx : x < 2 ^ 64) : D.word (sg x) INF = x := by rw [← h]; exact word_of hx

/-- nought and a number -/
theorem sum_one {x : Nat} (hx : x < 2 ^ 64) (nx : nanB x = false) : ∃ s, sumO [x] = some s ∧ s < 2 ^ 64 ∧ rung s ≤ INF ∧ FloatKind.f64.format.order s x = some .eq := by
  have hr := of_nanB_false nx
  have e : sumO [x] = D.add 0 x := rfl
  rw [e]
  by_cases h : rung x = INF
  · have h0 : rung 0 < INF := by decide
    refine ⟨x, by rw [add_fin_inf h0 h, posInf_rung h hx], hx, hr, order_self.2 hr⟩
  · have hf : rung x < INF := by omega
    refine ⟨_, zero_add_fin hx hf, ?_, ?_, ?_⟩
    · split <;> omega
    · split
      · decide
      · exact hr
    · by_cases h0 : rung x = 0
      · rw [if_pos h0]
        rw [show FloatKind.f64.format.order 0 x = some (compare (uv 0) (uv x)) from order_fin (by decide) hf]
        have e1 : uv 0 = 0 := by decide
        have e2 : uv x = 0 := by unfold uv; rw [h0, units_zero]; simp
        rw [e1, e2]; rfl
      · rw [if_neg h0]; exact order_self.2 hr

theorem mean_one {x s : Nat} (h : sumO [x] = some s) (hs : s < 2 ^ 64) (hr : rung s ≤ INF) : meanO [x] = some s := by
  unfold meanO
  rw [if_neg (by simp), h]
  show D.div s (enc 1) = some s
  by_cases h1 : rung s = INF
  · exact div_one_inf hs h1
  · exact div_one_fin hs (by omega)

set_option maxHeartbeats 1600000 in
theorem ones_nan (x y : Nat) (hx : x < 2 ^ 64) (hy : y < 2 ^ 64) (h : nanB x = true ∨ nanB y = true) (w : World) :
    Calls Try.prog 5 #[.int .u64 x, .int .u64 y] w fun e w' => e = .returned (.bool true) ∧ Below w.heap.size w w' := by
  have hfb := frombits_nat
  have sx := neq_self x
  have sy := neq_self y
  have hbest := Lib.hid (best_nan (-1) posInf x y h)
  have hc : (nanB x = true) ∨ (nanB x = false ∧ nanB y = true) := by
    rcases h with h | h
    · exact .inl h
    · cases hnx : nanB x
      · exact .inr ⟨rfl, h⟩
      · exact .inl rfl
  clear h
  rcases hc with hnx | ⟨hnx, hny⟩
  · rw [hnx] at sx
    clear sy hnx
    go_enter Try.func5, Try.ntmps5
    go_wp2_with fail
    refine (min_any _ _ _ (fsl_two _ _ rfl _ _ hx hy)).mono ?_
    rintro e w' ⟨m, rfl, rfl, hg⟩
    rw [hbest.out] at hg
    have hm : (FloatKind.f64.format.order m m != some .eq) = true := by rw [neq_self, nanB_true hg.2]
    clear hg
    go_wp2_with fail
    refine (awake_any _).mono ?_
    rintro e w' ⟨rfl, hb⟩
    have HB := Lib.hid hb
    clear hb
    go_wp2
    go_ret
    exact ⟨rfl, ((Below.refl _ _).alloc (Nat.le_refl _) _).trans (HB.out.mono (by simp))⟩
  · rw [hnx] at sx
    rw [hny] at sy
    clear hnx hny
    go_enter Try.func5, Try.ntmps5
    go_wp2_with fail
    refine (min_any _ _ _ (fsl_two _ _ rfl _ _ hx hy)).mono ?_
    rintro e w' ⟨m, rfl, rfl, hg⟩
    rw [hbest.out] at hg
    have hm : (FloatKind.f64.format.order m m != some .eq) = true := by rw [neq_self, nanB_true hg.2]
    clear hg
    go_wp2_with fail
    refine (awake_any _).mono ?_
    rintro e w' ⟨rfl, hb⟩
    have HB := Lib.hid hb
    clear hb
    go_wp2
    go_ret
    exact ⟨rfl, ((Below.refl _ _).alloc (Nat.le_refl _) _).trans (HB.out.mono (by simp))⟩

set_option maxHeartbeats 1600000 in
theorem ones_num (x y : Nat) (hx : x < 2 ^ 64) (hy : y < 2 ^ 64) (nx : nanB x = false) (ny : nanB y = false) (w : World) :
    Calls Try.prog 5 #[.int .u64 x, .int .u64 y] w fun e w' => e = .returned (.bool true) ∧ Below w.heap.size w w' := by
  have hfb := frombits_nat
  have hbits := bits_any
  have sx := neq_self x
  have sy := neq_self y
  rw [nx] at sx
  rw [ny] at sy
  obtain ⟨s, s1, s2, s3, s4⟩ := sum_one hx nx
  have m1 := Lib.hid (mean_one s1 s2 s3)
  have S1 := Lib.hid s1
  have hmin1 := Lib.hid (min_one hx nx)
  have hmax1 := Lib.hid (max_one hx nx)
  have hmin := Lib.hid (min_two (y := y) hx nx ny)
  have hmax := Lib.hid (max_two hx hy nx ny)
  have hsx : (FloatKind.f64.format.order s x != some .eq) = false := by rw [s4]; rfl
  have X := Lib.hid hx
  have Y := Lib.hid hy
  clear nx ny s1 s2 s3 s4 hx hy
  by_cases hc : cmpN (code y) (code x) < 0
  all_goals
    first | (rw [if_pos hc] at hmin hmax) | (rw [if_neg hc] at hmin hmax)
    go_enter Try.func5, Try.ntmps5
    go_wp2_with fail
    refine (cmp_any _ _ Y.out X.out _).mono ?_
    rintro e w' ⟨rfl, rfl⟩
    go_wp2_with fail
    refine (spread_any _ _ _ (fsl_one _ _ (by simp) _ X.out)).mono ?_
    rintro e w' ⟨p, q, r, t, n, rfl, rfl, hp, hq, hr, ht⟩
    rw [hmin1.out] at hp
    obtain rfl : p = x := hp.2
    rw [hmax1.out] at hq
    obtain rfl : q = p := hq.2
    rw [S1.out] at hr
    obtain rfl : r = s := hr.2
    rw [m1.out] at ht
    obtain rfl : t = r := ht.2
    clear hp hq hr ht
    go_wp2_with fail
    refine (same_eq _ _).mono ?_
    rintro e w' ⟨rfl, rfl⟩
    go_wp2_with fail
    refine (same_eq _ _).mono ?_
    rintro e w' ⟨rfl, rfl⟩
    go_wp2_with fail
    have hF := Lib.hid (((fsl_two w _ rfl _ _ X.out Y.out).later ((Below.refl _ _).alloc (Nat.le_refl _) (.cells #[.float .f64 q] 24))).drewN n)
    refine (min_any _ _ _ hF.out).mono ?_
    rintro e w' ⟨m, rfl, rfl, hg⟩
    rw [hmin.out] at hg
    obtain rfl := hg.2
    clear hg
    go_wp2_with fail
    refine (max_any _ _ _ hF.out).mono ?_
    rintro e w' ⟨m2, rfl, rfl, hg⟩
    rw [hmax.out] at hg
    obtain rfl := hg.2
    clear hg
    go_wp2_with fail
    refine (awake_any _).mono ?_
    rintro e w' ⟨rfl, hb⟩
    have HB := Lib.hid hb
    clear hb
    go_wp2
    go_ret
    exact ⟨rfl, (below_drewN (((Below.refl _ _).alloc (Nat.le_refl _) _).alloc (by simp) _) _).trans (HB.out.mono (by simp; omega))⟩

theorem ones_walk (a b : Int) (ha : (Lit.int .u64 a).wf = true) (hb : (Lit.int .u64 b).wf = true) (w : World) :
    Calls Try.prog 5 #[.int .u64 a, .int .u64 b] w fun e w' => e = .returned (.bool true) ∧ Below w.heap.size w w' := by
  obtain ⟨a1, a2⟩ := bounds_u64 ha
  obtain ⟨b1, b2⟩ := bounds_u64 hb
  obtain ⟨x, rfl⟩ := Int.eq_ofNat_of_zero_le a1
  obtain ⟨y, rfl⟩ := Int.eq_ofNat_of_zero_le b1
  have hx : x < 2 ^ 64 := by omega
  have hy : y < 2 ^ 64 := by omega
  cases nx : nanB x
  · cases ny : nanB y
    · exact ones_num x y hx hy nx ny w
    · exact ones_nan x y hx hy (.inr ny) w
  · exact ones_nan x y hx hy (.inl nx) w

end Go.Proofs.Ytohkjjmknpbdaaa
