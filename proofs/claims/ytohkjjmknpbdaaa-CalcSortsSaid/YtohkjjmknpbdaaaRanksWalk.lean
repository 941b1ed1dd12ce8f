/- The law 'CalcRanks': its walk. -/
import Derived.Test.YtohkjjmknpbdaaaRanksPlain
import Derived.Test.YtohkjjmknpbdaaaAwake
namespace Go.Proofs.Ytohkjjmknpbdaaa
open Go.RowKit Fl

theorem same_true {a b : Nat} (ha : a < 18446744073709551616) (hb : b < 18446744073709551616) (h : code a = code b) (w : World) :
    Calls Try.prog 32 #[.float .f64 a, .float .f64 b] w fun e w' => e = .returned (.bool true) ∧ w' = w :=
  (same_any a b ha hb w).mono fun _ _ ⟨h1, h2⟩ => ⟨by rw [h1, decide_eq_true h], h2.symm⟩

theorem word_lt {x : Int} (h : (Lit.int .u64 x).wf = true) : x.toNat < 18446744073709551616 := by
  have : ∀ z ∈ [x], (Lit.int .u64 z).wf = true := by intro z hz; simp at hz; rw [hz]; exact h
  have h2 := words_64 (zs := [x]) this
  exact h2 _ (by simp [words])

def RankRel (w : World) (B n : Nat) (a b : Option Addr) (xs M : List Nat) (i : Value) (wr : World) : Prop :=
  ∃ k : Nat, k ≤ n ∧ i = .int .i64 k ∧ Row wr a xs ∧ Row wr b M ∧ Below B w wr

set_option maxRecDepth 100000 in
set_option maxHeartbeats 6400000 in
theorem ranks_walk (a : Option Addr) (cap : Nat) (zs : List Int) (x y : Int) (w : World) (hz : Ins .u64 w a zs) (hx : (Lit.int .u64 x).wf = true) (hy : (Lit.int .u64 y).wf = true) :
    Calls Try.prog 8 #[.slice a zs.length cap, .int .u64 x, .int .u64 y] w fun e w' => e = .returned (.bool true) ∧ Below w.heap.size w w' := by
  have HZ := Lib.hid hz
  obtain ⟨xs, hxs⟩ : ∃ xs, Hid ((words zs).take 60 = xs) := ⟨_, rfl⟩
  obtain ⟨n, hn⟩ : ∃ n, Hid (xs.length = n) := ⟨_, rfl⟩
  obtain ⟨p, hp⟩ : ∃ p, Hid (x.toNat = p) := ⟨_, rfl⟩
  obtain ⟨q, hq⟩ : ∃ q, Hid (y.toNat = q) := ⟨_, rfl⟩
  obtain ⟨B, hB⟩ : ∃ B, Hid (w.heap.size = B) := ⟨_, rfl⟩
  have hp64 : Hid (p < 18446744073709551616) := Lib.hid (by rw [← hp.out]; exact word_lt hx)
  have hq64 : Hid (q < 18446744073709551616) := Lib.hid (by rw [← hq.out]; exact word_lt hy)
  have hfp : ∀ wx, (callFunc 19 #[.int .u64 x]).run Try.prog wx = .ok (.value (.float .f64 p)) wx := by intro wx; rw [← hp.out]; exact frombits_any x wx
  have hfq : ∀ wx, (callFunc 19 #[.int .u64 y]).run Try.prog wx = .ok (.value (.float .f64 q)) wx := by intro wx; rw [← hq.out]; exact frombits_any y wx
  rw [hB.out]
  clear hz hx hy
  have hn60 : n ≤ 60 := by rw [← hn.out, ← hxs.out]; simp; omega
  obtain ⟨i, hi⟩ : ∃ i, Hid (rankOf xs p = i) := ⟨_, rfl⟩
  obtain ⟨j, hj⟩ : ∃ j, Hid (rankOf xs q = j) := ⟨_, rfl⟩
  obtain ⟨r9, hr9⟩ : ∃ r9, Hid (rankOf xs 9221120237041090561 = r9) := ⟨_, rfl⟩
  have hrn : r9 ≤ n := by rw [← hr9.out, ← hn.out]; exact rankOf_le _ _
  have hin : i ≤ n := by rw [← hi.out, ← hn.out]; exact rankOf_le _ _
  have hjn : j ≤ n := by rw [← hj.out, ← hn.out]; exact rankOf_le _ _
  have hcase : (cmpN (code p) (code q) ≤ 0 ∧ decide (j < i) = false ∧ decide (code p = code q) = false) ∨ (cmpN (code p) (code q) ≤ 0 ∧ i = j ∧ decide (code p = code q) = true) ∨ (0 < cmpN (code p) (code q) ∧ decide (code p = code q) = false) := by
    rcases Nat.lt_trichotomy (code p) (code q) with h | h | h
    · exact .inl ⟨by unfold cmpN; rw [if_pos h]; decide, decide_eq_false (by have := rankOf_mono xs (p := p) (q := q) (by omega); rw [hi.out, hj.out] at this; omega), decide_eq_false (by omega)⟩
    · exact .inr (.inl ⟨by unfold cmpN; rw [if_neg (by omega), if_neg (by omega)]; decide, by rw [← hi.out, ← hj.out]; exact rankOf_eq xs h, decide_eq_true h⟩)
    · exact .inr (.inr ⟨by unfold cmpN; rw [if_neg (by omega), if_pos h]; decide, decide_eq_false (by omega)⟩)
  go_enter Try.func8, Try.ntmps8
  go_wp2_with fail
  refine (floats_row _ _ _ _ HZ.out).mono ?_
  rintro e w1 ⟨a1, c1, rfl, hc1, hr1, hb1⟩
  rw [hxs.out] at hr1 hc1
  rw [hxs.out, hn.out]
  have HC1 := Lib.hid hc1
  have HR1 := Lib.hid hr1
  have HB1 : Hid (Below B w w1) := Lib.hid (by rw [← hB.out]; exact hb1)
  clear hc1 hr1 hb1
  go_wp2_with fail
  refine (sort_row _ a1 xs n c1 hn.out HC1.out HR1.out).mono ?_
  rintro e w2 ⟨b1, M, rfl, hM, hperm, hsrt, hr2, hb2⟩
  have HM := Lib.hid hM
  have HP := Lib.hid hperm
  have HS := Lib.hid hsrt
  have HR2 := Lib.hid hr2
  have HR1' := Lib.hid (HR1.out.later hb2)
  have HB2 : Hid (Below B w w2) := Lib.hid (HB1.out.trans (hb2.mono (by have := HB1.out.size; rw [hB.out] at this; exact this)))
  clear hM hperm hsrt hr2 hb2 HR1 HB1
  go_wp2_with fail
  refine (rank_row _ a1 xs n c1 p hn.out hp64.out HR1'.out).mono ?_
  rintro e w' ⟨rfl, rfl⟩
  rw [hi.out]
  go_wp2_with fail
  refine (rank_row _ a1 xs n c1 q hn.out hq64.out HR1'.out).mono ?_
  rintro e w' ⟨rfl, rfl⟩
  rw [hj.out]
  go_wp2_with fail
  refine (cmp_any p q hp64.out hq64.out w2).mono ?_
  rintro e w' ⟨rfl, rfl⟩
  obtain ⟨cc, hcc⟩ : ∃ cc, cmpN (code p) (code q) = cc := ⟨_, rfl⟩
  obtain ⟨ss, hss⟩ : ∃ ss, decide (code p = code q) = ss := ⟨_, rfl⟩
  have hsm : ∀ wx, Calls Try.prog 32 #[.float .f64 p, .float .f64 q] wx fun e w' => e = .returned (.bool ss) ∧ wx = w' := by rw [← hss]; exact same_any p q hp64.out hq64.out
  rw [hcc, hss] at hcase
  rw [hcc]
  clear hcc hss
  rcases hcase with ⟨hcl, hij, rfl⟩ | ⟨hcl, rfl, rfl⟩ | ⟨hcl, rfl⟩
  · go_wp2_with fail
    refine (hsm _).mono ?_
    rintro e w' ⟨rfl, rfl⟩
    clear hsm
    go_wp2
    go_loopw [13, 14] (fun kk _ wr => RankRel w B n a1 b1 xs M kk wr) (fun kk _ _ => n - (intOf kk).toNat)
    case atStart => exact ⟨0, Nat.zero_le _, rfl, HR1'.out, HR2.out, HB2.out⟩
    case round =>
      clear HR1' HR2 HB2
      obtain ⟨k, hk, rfl, r1, r2, hbel⟩ := hrel
      have R1 := Lib.hid r1
      have R2 := Lib.hid r2
      have HB2 := Lib.hid hbel
      by_cases hlt : k < n
      · obtain ⟨g, rfl, hg, hcell⟩ := r2.2.2.2 k (by rw [HM.out]; exact hlt)
        have hx64 : Hid (M.getD k 0 < 18446744073709551616) := Lib.hid (by
          have hk2 : k < M.length := by rw [HM.out]; exact hlt
          have e : M.getD k 0 = M[k] := by simp [List.getD, hk2]
          rw [e]; exact r2.2.1 _ (List.getElem_mem hk2))
        have hle : rankOf xs (M.getD k 0) ≤ k := by rw [rankOf_perm HP.out]; exact rank_le HS.out (by rw [HM.out]; exact hlt)
        have htie : Hid (rankOf xs (M.getD k 0) < k → code (M.getD (rankOf xs (M.getD k 0)) 0) = code (M.getD k 0)) := Lib.hid (by rw [rankOf_perm HP.out]; exact rank_tie HS.out (by rw [HM.out]; exact hlt))
        clear r1 r2 hbel hg
        rw [Nat.zero_add] at hcell
        obtain ⟨u, hu⟩ : ∃ u, Hid (M.getD k 0 = u) := ⟨_, rfl⟩
        rw [hu.out] at hx64 hle htie hcell
        obtain ⟨r, hr⟩ : ∃ r, Hid (rankOf xs u = r) := ⟨_, rfl⟩
        rw [hr.out] at hle htie
        go_wp2_with fail
        refine (rank_row _ a1 xs n c1 u hn.out hx64.out R1.out).mono ?_
        rintro e w' ⟨rfl, rfl⟩
        rw [hr.out]
        by_cases hrk : r < k
        · obtain ⟨_, _, _, hcell2⟩ := R2.out.2.2.2 r (by rw [HM.out]; omega)
          have hv64 : Hid (M.getD r 0 < 18446744073709551616) := Lib.hid (by
            have hk2 : r < M.length := by rw [HM.out]; omega
            have e : M.getD r 0 = M[r] := by simp [List.getD, hk2]
            rw [e]; exact R2.out.2.1 _ (List.getElem_mem hk2))
          have ht := Lib.hid (htie.out hrk)
          obtain ⟨v, hv⟩ : ∃ v, Hid (M.getD r 0 = v) := ⟨_, rfl⟩
          rename_i g2 e2 _
          cases e2
          rw [hv.out] at hv64 hcell2 ht
          clear htie
          rw [Nat.zero_add] at hcell2
          have hrn2 : r < n := by omega
          have hrn3 : (r : Int) < (n : Int) := by omega
          go_wp2
          go_quiet ((go_at_call 32; exact Calls.quiet_of_same (same_true hv64.out hx64.out ht.out _)))
          go_wp2
          go_roundw
          case rel => exact ⟨k + 1, by omega, by simp, R1.out.drewN _, R2.out.drewN _, below_drewN HB2.out _⟩
          case measure => simp [intOf]; omega
        · have hrk2 : r = k := by omega
          subst hrk2
          clear htie
          go_wp2
          go_quiet (fail)
          go_wp2
          go_roundw
          case rel => exact ⟨r + 1, by omega, by simp, R1.out.drewN _, R2.out.drewN _, below_drewN HB2.out _⟩
          case measure => simp [intOf]; omega
      · have hkn : k = n := by omega
        subst hkn
        clear r1 r2 hbel
        go_wp2_with fail
        refine (nan_any _).mono ?_
        rintro e w' ⟨rfl, rfl⟩
        go_wp2_with fail
        refine (rank_row _ a1 xs k c1 _ hn.out (by decide) R1.out).mono ?_
        rintro e w' ⟨rfl, rfl⟩
        rw [hr9.out]
        go_wp2_with fail
        refine (rank_none none 0 p _).mono ?_
        rintro e w' ⟨rfl, rfl⟩
        go_wp2_with fail
        refine (awake_any _).mono ?_
        rintro e w9 ⟨rfl, hb9⟩
        have HB9 := Lib.hid (HB2.out.trans (hb9.mono (by have := HB2.out.size; rw [hB.out] at this; exact this)))
        clear hb9
        go_wp2
        go_ret
        exact ⟨rfl, HB9.out⟩
  · go_wp2_with fail
    refine (hsm _).mono ?_
    rintro e w' ⟨rfl, rfl⟩
    clear hsm
    go_wp2
    go_loopw [13, 14] (fun kk _ wr => RankRel w B n a1 b1 xs M kk wr) (fun kk _ _ => n - (intOf kk).toNat)
    case atStart => exact ⟨0, Nat.zero_le _, rfl, HR1'.out, HR2.out, HB2.out⟩
    case round =>
      clear HR1' HR2 HB2
      obtain ⟨k, hk, rfl, r1, r2, hbel⟩ := hrel
      have R1 := Lib.hid r1
      have R2 := Lib.hid r2
      have HB2 := Lib.hid hbel
      by_cases hlt : k < n
      · obtain ⟨g, rfl, hg, hcell⟩ := r2.2.2.2 k (by rw [HM.out]; exact hlt)
        have hx64 : Hid (M.getD k 0 < 18446744073709551616) := Lib.hid (by
          have hk2 : k < M.length := by rw [HM.out]; exact hlt
          have e : M.getD k 0 = M[k] := by simp [List.getD, hk2]
          rw [e]; exact r2.2.1 _ (List.getElem_mem hk2))
        have hle : rankOf xs (M.getD k 0) ≤ k := by rw [rankOf_perm HP.out]; exact rank_le HS.out (by rw [HM.out]; exact hlt)
        have htie : Hid (rankOf xs (M.getD k 0) < k → code (M.getD (rankOf xs (M.getD k 0)) 0) = code (M.getD k 0)) := Lib.hid (by rw [rankOf_perm HP.out]; exact rank_tie HS.out (by rw [HM.out]; exact hlt))
        clear r1 r2 hbel hg
        rw [Nat.zero_add] at hcell
        obtain ⟨u, hu⟩ : ∃ u, Hid (M.getD k 0 = u) := ⟨_, rfl⟩
        rw [hu.out] at hx64 hle htie hcell
        obtain ⟨r, hr⟩ : ∃ r, Hid (rankOf xs u = r) := ⟨_, rfl⟩
        rw [hr.out] at hle htie
        go_wp2_with fail
        refine (rank_row _ a1 xs n c1 u hn.out hx64.out R1.out).mono ?_
        rintro e w' ⟨rfl, rfl⟩
        rw [hr.out]
        by_cases hrk : r < k
        · obtain ⟨_, _, _, hcell2⟩ := R2.out.2.2.2 r (by rw [HM.out]; omega)
          have hv64 : Hid (M.getD r 0 < 18446744073709551616) := Lib.hid (by
            have hk2 : r < M.length := by rw [HM.out]; omega
            have e : M.getD r 0 = M[r] := by simp [List.getD, hk2]
            rw [e]; exact R2.out.2.1 _ (List.getElem_mem hk2))
          have ht := Lib.hid (htie.out hrk)
          obtain ⟨v, hv⟩ : ∃ v, Hid (M.getD r 0 = v) := ⟨_, rfl⟩
          rename_i g2 e2 _
          cases e2
          rw [hv.out] at hv64 hcell2 ht
          clear htie
          rw [Nat.zero_add] at hcell2
          have hrn2 : r < n := by omega
          have hrn3 : (r : Int) < (n : Int) := by omega
          go_wp2
          go_quiet ((go_at_call 32; exact Calls.quiet_of_same (same_true hv64.out hx64.out ht.out _)))
          go_wp2
          go_roundw
          case rel => exact ⟨k + 1, by omega, by simp, R1.out.drewN _, R2.out.drewN _, below_drewN HB2.out _⟩
          case measure => simp [intOf]; omega
        · have hrk2 : r = k := by omega
          subst hrk2
          clear htie
          go_wp2
          go_quiet (fail)
          go_wp2
          go_roundw
          case rel => exact ⟨r + 1, by omega, by simp, R1.out.drewN _, R2.out.drewN _, below_drewN HB2.out _⟩
          case measure => simp [intOf]; omega
      · have hkn : k = n := by omega
        subst hkn
        clear r1 r2 hbel
        go_wp2_with fail
        refine (nan_any _).mono ?_
        rintro e w' ⟨rfl, rfl⟩
        go_wp2_with fail
        refine (rank_row _ a1 xs k c1 _ hn.out (by decide) R1.out).mono ?_
        rintro e w' ⟨rfl, rfl⟩
        rw [hr9.out]
        go_wp2_with fail
        refine (rank_none none 0 p _).mono ?_
        rintro e w' ⟨rfl, rfl⟩
        go_wp2_with fail
        refine (awake_any _).mono ?_
        rintro e w9 ⟨rfl, hb9⟩
        have HB9 := Lib.hid (HB2.out.trans (hb9.mono (by have := HB2.out.size; rw [hB.out] at this; exact this)))
        clear hb9
        go_wp2
        go_ret
        exact ⟨rfl, HB9.out⟩
  · go_wp2_with fail
    refine (hsm _).mono ?_
    rintro e w' ⟨rfl, rfl⟩
    clear hsm
    go_wp2
    go_loopw [13, 14] (fun kk _ wr => RankRel w B n a1 b1 xs M kk wr) (fun kk _ _ => n - (intOf kk).toNat)
    case atStart => exact ⟨0, Nat.zero_le _, rfl, HR1'.out, HR2.out, HB2.out⟩
    case round =>
      clear HR1' HR2 HB2
      obtain ⟨k, hk, rfl, r1, r2, hbel⟩ := hrel
      have R1 := Lib.hid r1
      have R2 := Lib.hid r2
      have HB2 := Lib.hid hbel
      by_cases hlt : k < n
      · obtain ⟨g, rfl, hg, hcell⟩ := r2.2.2.2 k (by rw [HM.out]; exact hlt)
        have hx64 : Hid (M.getD k 0 < 18446744073709551616) := Lib.hid (by
          have hk2 : k < M.length := by rw [HM.out]; exact hlt
          have e : M.getD k 0 = M[k] := by simp [List.getD, hk2]
          rw [e]; exact r2.2.1 _ (List.getElem_mem hk2))
        have hle : rankOf xs (M.getD k 0) ≤ k := by rw [rankOf_perm HP.out]; exact rank_le HS.out (by rw [HM.out]; exact hlt)
        have htie : Hid (rankOf xs (M.getD k 0) < k → code (M.getD (rankOf xs (M.getD k 0)) 0) = code (M.getD k 0)) := Lib.hid (by rw [rankOf_perm HP.out]; exact rank_tie HS.out (by rw [HM.out]; exact hlt))
        clear r1 r2 hbel hg
        rw [Nat.zero_add] at hcell
        obtain ⟨u, hu⟩ : ∃ u, Hid (M.getD k 0 = u) := ⟨_, rfl⟩
        rw [hu.out] at hx64 hle htie hcell
        obtain ⟨r, hr⟩ : ∃ r, Hid (rankOf xs u = r) := ⟨_, rfl⟩
        rw [hr.out] at hle htie
        go_wp2_with fail
        refine (rank_row _ a1 xs n c1 u hn.out hx64.out R1.out).mono ?_
        rintro e w' ⟨rfl, rfl⟩
        rw [hr.out]
        by_cases hrk : r < k
        · obtain ⟨_, _, _, hcell2⟩ := R2.out.2.2.2 r (by rw [HM.out]; omega)
          have hv64 : Hid (M.getD r 0 < 18446744073709551616) := Lib.hid (by
            have hk2 : r < M.length := by rw [HM.out]; omega
            have e : M.getD r 0 = M[r] := by simp [List.getD, hk2]
            rw [e]; exact R2.out.2.1 _ (List.getElem_mem hk2))
          have ht := Lib.hid (htie.out hrk)
          obtain ⟨v, hv⟩ : ∃ v, Hid (M.getD r 0 = v) := ⟨_, rfl⟩
          rename_i g2 e2 _
          cases e2
          rw [hv.out] at hv64 hcell2 ht
          clear htie
          rw [Nat.zero_add] at hcell2
          have hrn2 : r < n := by omega
          have hrn3 : (r : Int) < (n : Int) := by omega
          go_wp2
          go_quiet ((go_at_call 32; exact Calls.quiet_of_same (same_true hv64.out hx64.out ht.out _)))
          go_wp2
          go_roundw
          case rel => exact ⟨k + 1, by omega, by simp, R1.out.drewN _, R2.out.drewN _, below_drewN HB2.out _⟩
          case measure => simp [intOf]; omega
        · have hrk2 : r = k := by omega
          subst hrk2
          clear htie
          go_wp2
          go_quiet (fail)
          go_wp2
          go_roundw
          case rel => exact ⟨r + 1, by omega, by simp, R1.out.drewN _, R2.out.drewN _, below_drewN HB2.out _⟩
          case measure => simp [intOf]; omega
      · have hkn : k = n := by omega
        subst hkn
        clear r1 r2 hbel
        go_wp2_with fail
        refine (nan_any _).mono ?_
        rintro e w' ⟨rfl, rfl⟩
        go_wp2_with fail
        refine (rank_row _ a1 xs k c1 _ hn.out (by decide) R1.out).mono ?_
        rintro e w' ⟨rfl, rfl⟩
        rw [hr9.out]
        go_wp2_with fail
        refine (rank_none none 0 p _).mono ?_
        rintro e w' ⟨rfl, rfl⟩
        go_wp2_with fail
        refine (awake_any _).mono ?_
        rintro e w9 ⟨rfl, hb9⟩
        have HB9 := Lib.hid (HB2.out.trans (hb9.mono (by have := HB2.out.size; rw [hB.out] at this; exact this)))
        clear hb9
        go_wp2
        go_ret
        exact ⟨rfl, HB9.out⟩

end Go.Proofs.Ytohkjjmknpbdaaa
