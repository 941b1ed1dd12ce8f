/- The law 'CalcSorts': its walk. (Printed by mksorts.py.) -/
import Derived.Test.YtohkjjmknpbdaaaSortsPlain
import Derived.Test.YtohkjjmknpbdaaaRanksWalk
namespace Go.Proofs.Ytohkjjmknpbdaaa
open Go.RowKit Fl

theorem same_false {a b : Nat} (ha : a < 18446744073709551616) (hb : b < 18446744073709551616) (h : ¬ code a = code b) (w : World) :
    Calls Try.prog 32 #[.float .f64 a, .float .f64 b] w fun e w' => e = .returned (.bool false) ∧ w' = w :=
  (same_any a b ha hb w).mono fun _ _ ⟨h1, h2⟩ => ⟨by rw [h1, decide_eq_false h], h2.symm⟩

def SoRel (w : World) (B n : Nat) (a1 a2 b : Option Addr) (xs M : List Nat) (i : Value) (wr : World) : Prop :=
  ∃ k : Nat, k ≤ n ∧ i = .int .i64 k ∧ Row wr a1 xs ∧ Row wr a2 xs ∧ Row wr b M ∧ Below B w wr

def SiRel (w : World) (B n c : Nat) (a1 a2 b : Option Addr) (xs M : List Nat) (d k : Value) (wr : World) : Prop :=
  ∃ (kk : Nat) (dd : Int), kk ≤ n ∧ -(kk : Int) ≤ dd ∧ dd ≤ kk ∧ dd = (occ c (xs.take kk) : Int) - (occ c (M.take kk) : Int) ∧ d = .int .i64 dd ∧ k = .int .i64 kk ∧ Row wr a1 xs ∧ Row wr a2 xs ∧ Row wr b M ∧ Below B w wr

set_option maxRecDepth 100000 in
set_option maxHeartbeats 12800000 in
theorem sorts_walk (a : Option Addr) (cap : Nat) (zs : List Int) (y0 : Int) (w : World) (hz : Ins .u64 w a zs) (hy0 : (Lit.int .u64 y0).wf = true) :
    Calls Try.prog 9 #[.slice a zs.length cap, .int .u64 y0] w fun e w' => e = .returned (.bool true) ∧ Below w.heap.size w w' := by
  have HZ := Lib.hid hz
  have HZ2 : Hid (∀ w', Below w.heap.size w w' → Ins .u64 w' a zs) := Lib.hid (by
    intro w' hb
    refine ⟨hz.1, hz.2.1, ?_⟩
    intro i hi
    obtain ⟨b, off, h1, h2, h3⟩ := hz.2.2 i hi
    exact ⟨b, off, h1, Nat.lt_of_lt_of_le h2 hb.size, (hb.cell (p := ⟨b, off + i, none⟩) h2).trans h3⟩)
  obtain ⟨xs, hxs⟩ : ∃ xs, Hid ((words zs).take 60 = xs) := ⟨_, rfl⟩
  obtain ⟨n, hn⟩ : ∃ n, Hid (xs.length = n) := ⟨_, rfl⟩
  obtain ⟨y, hy⟩ : ∃ y, Hid (y0.toNat = y) := ⟨_, rfl⟩
  obtain ⟨B, hB⟩ : ∃ B, Hid (w.heap.size = B) := ⟨_, rfl⟩
  have hy64 : Hid (y < 18446744073709551616) := Lib.hid (by rw [← hy.out]; exact word_lt hy0)
  have hfy : ∀ wx, (callFunc 19 #[.int .u64 y0]).run Try.prog wx = .ok (.value (.float .f64 y)) wx := by intro wx; rw [← hy.out]; exact frombits_any y0 wx
  rw [hB.out]
  clear hz hy0
  have hn60 : n ≤ 60 := by rw [← hn.out, ← hxs.out]; simp; omega
  go_enter Try.func9, Try.ntmps9
  go_wp2_with fail
  refine (floats_row _ _ _ _ HZ.out).mono ?_
  rintro e w1 ⟨a1, c1, rfl, hc1, hr1, hb1⟩
  rw [hxs.out] at hr1 hc1
  rw [hxs.out, hn.out]
  have HC1 := Lib.hid hc1
  have HR1 := Lib.hid hr1
  have HI := Lib.hid (HZ2.out _ hb1)
  have HB1 : Hid (Below B w w1) := Lib.hid (by rw [← hB.out]; exact hb1)
  clear hc1 hr1 hb1 HZ HZ2
  go_wp2_with fail
  refine (floats_row _ _ _ _ HI.out).mono ?_
  rintro e w2 ⟨a2, c2, rfl, _, hr2, hb2⟩
  rw [hxs.out] at hr2
  rw [hxs.out, hn.out]
  have HR2 := Lib.hid hr2
  have HR1' := Lib.hid (HR1.out.later hb2)
  have HB2 : Hid (Below B w w2) := Lib.hid (HB1.out.trans (hb2.mono (by have := HB1.out.size; rw [hB.out] at this; exact this)))
  clear hr2 hb2 HR1 HB1 HI
  go_wp2_with fail
  refine (sort_row _ a1 xs n c1 hn.out HC1.out HR1'.out).mono ?_
  rintro e w3 ⟨b1, M, rfl, hM, hperm, hsrt, hr3, hb3⟩
  have HM := Lib.hid hM
  have HP := Lib.hid hperm
  have HS := Lib.hid hsrt
  have HR3 := Lib.hid hr3
  have HR1 := Lib.hid (HR1'.out.later hb3)
  have HR2' := Lib.hid (HR2.out.later hb3)
  have HB3 : Hid (Below B w w3) := Lib.hid (HB2.out.trans (hb3.mono (by have := HB2.out.size; rw [hB.out] at this; exact this)))
  clear hM hperm hsrt hr3 hb3 HR1' HR2 HB2
  go_wp2
  go_loopw [8, 9, 10] (fun ii _ _ wr => SoRel w B n a1 a2 b1 xs M ii wr) (fun ii _ _ _ => n - (intOf ii).toNat)
  case atStart => exact ⟨0, Nat.zero_le _, rfl, HR1.out, HR2'.out, HR3.out, HB3.out⟩
  case round =>
    clear HR1 HR2' HR3 HB3
    obtain ⟨i, hi, rfl, r1, r2, r3, hbel⟩ := hrel
    have R1 := Lib.hid r1
    have R2 := Lib.hid r2
    have R3 := Lib.hid r3
    have HB := Lib.hid hbel
    clear r1 r2 r3 hbel
    by_cases hlt : i < n
    · obtain ⟨hu, g1, rfl, hcell1⟩ := row_at R1.out (i := i) (by rw [hn.out]; exact hlt)
      obtain ⟨_, g2, rfl, hcell2⟩ := row_at R2.out (i := i) (by rw [hn.out]; exact hlt)
      obtain ⟨hm, g3, rfl, hcell3⟩ := row_at R3.out (i := i) (by rw [HM.out]; exact hlt)
      have hu64 := Lib.hid hu
      have hm64 := Lib.hid hm
      clear hu hm
      have hord : Hid (∀ im, im + 1 = i → code (M.getD im 0) ≤ code (M.getD i 0)) := Lib.hid (fun im h => srt_at HS.out (by omega) (by rw [HM.out]; exact hlt))
      obtain ⟨u, huu⟩ : ∃ u, Hid (xs.getD i 0 = u) := ⟨_, rfl⟩
      obtain ⟨m, hmm⟩ : ∃ m, Hid (M.getD i 0 = m) := ⟨_, rfl⟩
      rw [huu.out] at hu64 hcell1 hcell2
      rw [hmm.out] at hm64 hcell3 hord
      obtain ⟨cc, hcc⟩ : ∃ cc, Hid (code u = cc) := ⟨_, rfl⟩
      have hbits := bits_any u
      by_cases hi0 : i = 0
      · subst hi0
        have hi1 : True := trivial
        have hi2 : True := trivial
        go_wp2
        go_quiet (fail)
        go_wp2
        clear hbits hi1 hi2
        obtain ⟨wo, hwo⟩ : ∃ wo : World, wo = wr.drewN nq := ⟨_, rfl⟩
        have RR1 : Hid (Row wo (some ⟨g1, 0, none⟩) xs) := Lib.hid (by rw [hwo]; exact R1.out.drewN _)
        have RR2 : Hid (Row wo (some ⟨g2, 0, none⟩) xs) := Lib.hid (by rw [hwo]; exact R2.out.drewN _)
        have RR3 : Hid (Row wo (some ⟨g3, 0, none⟩) M) := Lib.hid (by rw [hwo]; exact R3.out.drewN _)
        have RB : Hid (Below B w wo) := Lib.hid (by rw [hwo]; exact below_drewN HB.out _)
        rw [← hwo]
        clear hwo R1 R2 R3 HB hcell1 hcell2 hcell3
        go_loopw [9, 10] (fun d k wr => SiRel w B n cc (some ⟨g1, 0, none⟩) (some ⟨g2, 0, none⟩) (some ⟨g3, 0, none⟩) xs M d k wr) (fun _ k _ => n - (intOf k).toNat)
        case atStart => exact ⟨0, 0, Nat.zero_le _, by simp, by simp, by simp [occ], rfl, rfl, RR1.out, RR2.out, RR3.out, RB.out⟩
        case round =>
          clear RR1 RR2 RR3 RB
          obtain ⟨k, d, hk, hd1, hd2, hd3, rfl, rfl, r1, r2, r3, hbel⟩ := hrel
          have R1 := Lib.hid r1
          have R2 := Lib.hid r2
          have R3 := Lib.hid r3
          have HB := Lib.hid hbel
          have Hd := Lib.hid hd3
          clear r1 r2 r3 hbel hd3
          by_cases hlk : k < n
          · have hstep1 := Lib.hid (occ_snoc cc xs k (by rw [hn.out]; exact hlk))
            have hstep2 := Lib.hid (occ_snoc cc M k (by rw [HM.out]; exact hlk))
            obtain ⟨hv, _, e7, hcell5⟩ := row_at R1.out (i := k) (by rw [hn.out]; exact hlk)
            cases e7
            obtain ⟨hs, _, e8, hcell6⟩ := row_at R3.out (i := k) (by rw [HM.out]; exact hlk)
            cases e8
            obtain ⟨_, _, e9, hcell1⟩ := row_at R1.out (i := 0) (by rw [hn.out]; exact hlt)
            cases e9
            rw [huu.out] at hcell1
            have hv64 := Lib.hid hv
            have hs64 := Lib.hid hs
            clear hv hs
            generalize xs.getD k 0 = v at *
            generalize M.getD k 0 = s at *
            have hif : Hid (∀ z, code z = code u ↔ code z = cc) := Lib.hid (by intro z; rw [hcc.out])
            by_cases hvu : code v = code u
            · have HV := Lib.hid hvu
              rw [if_pos ((hif.out v).1 hvu)] at hstep1
              clear hvu
              go_wp2
              go_quiet ((go_at_call 32; exact Calls.quiet_of_same (same_true hv64.out hu64.out HV.out _)))
              go_wp2
              obtain ⟨wp, hwp⟩ : ∃ wp : World, wp = wr.drewN nq := ⟨_, rfl⟩
              have S1 : Hid (Row wp (some ⟨g1, 0, none⟩) xs) := Lib.hid (by rw [hwp]; exact R1.out.drewN _)
              have S2 : Hid (Row wp (some ⟨g2, 0, none⟩) xs) := Lib.hid (by rw [hwp]; exact R2.out.drewN _)
              have S3 : Hid (Row wp (some ⟨g3, 0, none⟩) M) := Lib.hid (by rw [hwp]; exact R3.out.drewN _)
              have SB : Hid (Below B w wp) := Lib.hid (by rw [hwp]; exact below_drewN HB.out _)
              have hc6 : wp.cell? ⟨g3, k, none⟩ = some (.float .f64 s) := by rw [hwp]; exact hcell6
              have hc1 : wp.cell? ⟨g1, 0, none⟩ = some (.float .f64 u) := by rw [hwp]; exact hcell1
              rw [← hwp]
              clear hwp R1 R2 R3 HB hcell6 hcell1 hcell5
              by_cases hsu : code s = code u
              · have HW := Lib.hid hsu
                rw [if_pos ((hif.out s).1 hsu)] at hstep2
                clear hsu
                go_quiet ((go_at_call 32; exact Calls.quiet_of_same (same_true hs64.out hu64.out HW.out _)))
                go_wp2
                go_roundw
                case rel =>
                  have := Hd.out; have := hstep1.out; have := hstep2.out
                  refine ⟨k + 1, _, by omega, ?_, ?_, ?_, rfl, by simp, S1.out.drewN _, S2.out.drewN _, S3.out.drewN _, below_drewN SB.out _⟩ <;> omega
                case measure => simp [intOf]; omega
              · have HW := Lib.hid hsu
                rw [if_neg (fun e => hsu ((hif.out s).2 e))] at hstep2
                clear hsu
                go_quiet ((go_at_call 32; exact Calls.quiet_of_same (same_false hs64.out hu64.out HW.out _)))
                go_wp2
                go_roundw
                case rel =>
                  have := Hd.out; have := hstep1.out; have := hstep2.out
                  refine ⟨k + 1, _, by omega, ?_, ?_, ?_, rfl, by simp, S1.out.drewN _, S2.out.drewN _, S3.out.drewN _, below_drewN SB.out _⟩ <;> omega
                case measure => simp [intOf]; omega
            · have HV := Lib.hid hvu
              rw [if_neg (fun e => hvu ((hif.out v).2 e))] at hstep1
              clear hvu
              go_wp2
              go_quiet ((go_at_call 32; exact Calls.quiet_of_same (same_false hv64.out hu64.out HV.out _)))
              go_wp2
              obtain ⟨wp, hwp⟩ : ∃ wp : World, wp = wr.drewN nq := ⟨_, rfl⟩
              have S1 : Hid (Row wp (some ⟨g1, 0, none⟩) xs) := Lib.hid (by rw [hwp]; exact R1.out.drewN _)
              have S2 : Hid (Row wp (some ⟨g2, 0, none⟩) xs) := Lib.hid (by rw [hwp]; exact R2.out.drewN _)
              have S3 : Hid (Row wp (some ⟨g3, 0, none⟩) M) := Lib.hid (by rw [hwp]; exact R3.out.drewN _)
              have SB : Hid (Below B w wp) := Lib.hid (by rw [hwp]; exact below_drewN HB.out _)
              have hc6 : wp.cell? ⟨g3, k, none⟩ = some (.float .f64 s) := by rw [hwp]; exact hcell6
              have hc1 : wp.cell? ⟨g1, 0, none⟩ = some (.float .f64 u) := by rw [hwp]; exact hcell1
              rw [← hwp]
              clear hwp R1 R2 R3 HB hcell6 hcell1 hcell5
              by_cases hsu : code s = code u
              · have HW := Lib.hid hsu
                rw [if_pos ((hif.out s).1 hsu)] at hstep2
                clear hsu
                go_quiet ((go_at_call 32; exact Calls.quiet_of_same (same_true hs64.out hu64.out HW.out _)))
                go_wp2
                go_roundw
                case rel =>
                  have := Hd.out; have := hstep1.out; have := hstep2.out
                  refine ⟨k + 1, _, by omega, ?_, ?_, ?_, rfl, by simp, S1.out.drewN _, S2.out.drewN _, S3.out.drewN _, below_drewN SB.out _⟩ <;> omega
                case measure => simp [intOf]; omega
              · have HW := Lib.hid hsu
                rw [if_neg (fun e => hsu ((hif.out s).2 e))] at hstep2
                clear hsu
                go_quiet ((go_at_call 32; exact Calls.quiet_of_same (same_false hs64.out hu64.out HW.out _)))
                go_wp2
                go_roundw
                case rel =>
                  have := Hd.out; have := hstep1.out; have := hstep2.out
                  refine ⟨k + 1, _, by omega, ?_, ?_, ?_, rfl, by simp, S1.out.drewN _, S2.out.drewN _, S3.out.drewN _, below_drewN SB.out _⟩ <;> omega
                case measure => simp [intOf]; omega
          · have hkn : k = n := by omega
            have hdz : d = 0 := by
              rw [Hd.out, hkn, List.take_of_length_le (by rw [hn.out]; exact Nat.le_refl _), List.take_of_length_le (by rw [HM.out]; exact Nat.le_refl _), occ_perm HP.out]; omega
            subst hdz
            clear Hd hd1 hd2
            go_wp2
            go_roundw
            case rel => exact ⟨0 + 1, by omega, by simp, R1.out, R2.out, R3.out, HB.out⟩
            case measure => simp [intOf]; omega
      · obtain ⟨im, him⟩ : ∃ im, im + 1 = i := ⟨i - 1, by omega⟩
        have hi1 : decide (0 < i) = true := decide_eq_true (by omega)
        have hi2 : decide ((0 : Int) < (i : Int)) = true := decide_eq_true (by omega)
        clear hi0
        have e1 : (i : Int) - 1 = (im : Int) := by omega
        have him2 : im < n := by omega
        have ho := hord.out im him
        obtain ⟨hp, _, e9, hcell4⟩ := row_at R3.out (i := im) (by rw [HM.out]; exact him2)
        cases e9
        have hp64 := Lib.hid hp
        clear hp
        obtain ⟨m0, hm0⟩ : ∃ m0, Hid (M.getD im 0 = m0) := ⟨_, rfl⟩
        rw [hm0.out] at hp64 hcell4 ho
        have hq : cmpN (code m0) (code m) ≤ 0 := by unfold cmpN; split; decide; rw [if_neg (by omega)]; decide
        have Him := Lib.hid him
        clear ho him
        go_wp2
        go_quiet ((go_at_call 20; exact Calls.quiet_of_same (cmp_quiet _ _ hp64.out hm64.out _)))
        go_wp2
        clear hbits hi1 hi2
        obtain ⟨wo, hwo⟩ : ∃ wo : World, wo = wr.drewN nq := ⟨_, rfl⟩
        have RR1 : Hid (Row wo (some ⟨g1, 0, none⟩) xs) := Lib.hid (by rw [hwo]; exact R1.out.drewN _)
        have RR2 : Hid (Row wo (some ⟨g2, 0, none⟩) xs) := Lib.hid (by rw [hwo]; exact R2.out.drewN _)
        have RR3 : Hid (Row wo (some ⟨g3, 0, none⟩) M) := Lib.hid (by rw [hwo]; exact R3.out.drewN _)
        have RB : Hid (Below B w wo) := Lib.hid (by rw [hwo]; exact below_drewN HB.out _)
        rw [← hwo]
        clear hwo R1 R2 R3 HB hcell1 hcell2 hcell3
        go_loopw [9, 10] (fun d k wr => SiRel w B n cc (some ⟨g1, 0, none⟩) (some ⟨g2, 0, none⟩) (some ⟨g3, 0, none⟩) xs M d k wr) (fun _ k _ => n - (intOf k).toNat)
        case atStart => exact ⟨0, 0, Nat.zero_le _, by simp, by simp, by simp [occ], rfl, rfl, RR1.out, RR2.out, RR3.out, RB.out⟩
        case round =>
          clear RR1 RR2 RR3 RB
          obtain ⟨k, d, hk, hd1, hd2, hd3, rfl, rfl, r1, r2, r3, hbel⟩ := hrel
          have R1 := Lib.hid r1
          have R2 := Lib.hid r2
          have R3 := Lib.hid r3
          have HB := Lib.hid hbel
          have Hd := Lib.hid hd3
          clear r1 r2 r3 hbel hd3
          by_cases hlk : k < n
          · have hstep1 := Lib.hid (occ_snoc cc xs k (by rw [hn.out]; exact hlk))
            have hstep2 := Lib.hid (occ_snoc cc M k (by rw [HM.out]; exact hlk))
            obtain ⟨hv, _, e7, hcell5⟩ := row_at R1.out (i := k) (by rw [hn.out]; exact hlk)
            cases e7
            obtain ⟨hs, _, e8, hcell6⟩ := row_at R3.out (i := k) (by rw [HM.out]; exact hlk)
            cases e8
            obtain ⟨_, _, e9, hcell1⟩ := row_at R1.out (i := i) (by rw [hn.out]; exact hlt)
            cases e9
            rw [huu.out] at hcell1
            have hv64 := Lib.hid hv
            have hs64 := Lib.hid hs
            clear hv hs
            generalize xs.getD k 0 = v at *
            generalize M.getD k 0 = s at *
            have hif : Hid (∀ z, code z = code u ↔ code z = cc) := Lib.hid (by intro z; rw [hcc.out])
            by_cases hvu : code v = code u
            · have HV := Lib.hid hvu
              rw [if_pos ((hif.out v).1 hvu)] at hstep1
              clear hvu
              go_wp2
              go_quiet ((go_at_call 32; exact Calls.quiet_of_same (same_true hv64.out hu64.out HV.out _)))
              go_wp2
              obtain ⟨wp, hwp⟩ : ∃ wp : World, wp = wr.drewN nq := ⟨_, rfl⟩
              have S1 : Hid (Row wp (some ⟨g1, 0, none⟩) xs) := Lib.hid (by rw [hwp]; exact R1.out.drewN _)
              have S2 : Hid (Row wp (some ⟨g2, 0, none⟩) xs) := Lib.hid (by rw [hwp]; exact R2.out.drewN _)
              have S3 : Hid (Row wp (some ⟨g3, 0, none⟩) M) := Lib.hid (by rw [hwp]; exact R3.out.drewN _)
              have SB : Hid (Below B w wp) := Lib.hid (by rw [hwp]; exact below_drewN HB.out _)
              have hc6 : wp.cell? ⟨g3, k, none⟩ = some (.float .f64 s) := by rw [hwp]; exact hcell6
              have hc1 : wp.cell? ⟨g1, i, none⟩ = some (.float .f64 u) := by rw [hwp]; exact hcell1
              rw [← hwp]
              clear hwp R1 R2 R3 HB hcell6 hcell1 hcell5
              by_cases hsu : code s = code u
              · have HW := Lib.hid hsu
                rw [if_pos ((hif.out s).1 hsu)] at hstep2
                clear hsu
                go_quiet ((go_at_call 32; exact Calls.quiet_of_same (same_true hs64.out hu64.out HW.out _)))
                go_wp2
                go_roundw
                case rel =>
                  have := Hd.out; have := hstep1.out; have := hstep2.out
                  refine ⟨k + 1, _, by omega, ?_, ?_, ?_, rfl, by simp, S1.out.drewN _, S2.out.drewN _, S3.out.drewN _, below_drewN SB.out _⟩ <;> omega
                case measure => simp [intOf]; omega
              · have HW := Lib.hid hsu
                rw [if_neg (fun e => hsu ((hif.out s).2 e))] at hstep2
                clear hsu
                go_quiet ((go_at_call 32; exact Calls.quiet_of_same (same_false hs64.out hu64.out HW.out _)))
                go_wp2
                go_roundw
                case rel =>
                  have := Hd.out; have := hstep1.out; have := hstep2.out
                  refine ⟨k + 1, _, by omega, ?_, ?_, ?_, rfl, by simp, S1.out.drewN _, S2.out.drewN _, S3.out.drewN _, below_drewN SB.out _⟩ <;> omega
                case measure => simp [intOf]; omega
            · have HV := Lib.hid hvu
              rw [if_neg (fun e => hvu ((hif.out v).2 e))] at hstep1
              clear hvu
              go_wp2
              go_quiet ((go_at_call 32; exact Calls.quiet_of_same (same_false hv64.out hu64.out HV.out _)))
              go_wp2
              obtain ⟨wp, hwp⟩ : ∃ wp : World, wp = wr.drewN nq := ⟨_, rfl⟩
              have S1 : Hid (Row wp (some ⟨g1, 0, none⟩) xs) := Lib.hid (by rw [hwp]; exact R1.out.drewN _)
              have S2 : Hid (Row wp (some ⟨g2, 0, none⟩) xs) := Lib.hid (by rw [hwp]; exact R2.out.drewN _)
              have S3 : Hid (Row wp (some ⟨g3, 0, none⟩) M) := Lib.hid (by rw [hwp]; exact R3.out.drewN _)
              have SB : Hid (Below B w wp) := Lib.hid (by rw [hwp]; exact below_drewN HB.out _)
              have hc6 : wp.cell? ⟨g3, k, none⟩ = some (.float .f64 s) := by rw [hwp]; exact hcell6
              have hc1 : wp.cell? ⟨g1, i, none⟩ = some (.float .f64 u) := by rw [hwp]; exact hcell1
              rw [← hwp]
              clear hwp R1 R2 R3 HB hcell6 hcell1 hcell5
              by_cases hsu : code s = code u
              · have HW := Lib.hid hsu
                rw [if_pos ((hif.out s).1 hsu)] at hstep2
                clear hsu
                go_quiet ((go_at_call 32; exact Calls.quiet_of_same (same_true hs64.out hu64.out HW.out _)))
                go_wp2
                go_roundw
                case rel =>
                  have := Hd.out; have := hstep1.out; have := hstep2.out
                  refine ⟨k + 1, _, by omega, ?_, ?_, ?_, rfl, by simp, S1.out.drewN _, S2.out.drewN _, S3.out.drewN _, below_drewN SB.out _⟩ <;> omega
                case measure => simp [intOf]; omega
              · have HW := Lib.hid hsu
                rw [if_neg (fun e => hsu ((hif.out s).2 e))] at hstep2
                clear hsu
                go_quiet ((go_at_call 32; exact Calls.quiet_of_same (same_false hs64.out hu64.out HW.out _)))
                go_wp2
                go_roundw
                case rel =>
                  have := Hd.out; have := hstep1.out; have := hstep2.out
                  refine ⟨k + 1, _, by omega, ?_, ?_, ?_, rfl, by simp, S1.out.drewN _, S2.out.drewN _, S3.out.drewN _, below_drewN SB.out _⟩ <;> omega
                case measure => simp [intOf]; omega
          · have hkn : k = n := by omega
            have hdz : d = 0 := by
              rw [Hd.out, hkn, List.take_of_length_le (by rw [hn.out]; exact Nat.le_refl _), List.take_of_length_le (by rw [HM.out]; exact Nat.le_refl _), occ_perm HP.out]; omega
            subst hdz
            clear Hd hd1 hd2
            go_wp2
            go_roundw
            case rel => exact ⟨i + 1, by omega, by simp, R1.out, R2.out, R3.out, HB.out⟩
            case measure => simp [intOf]; omega
    · have hkn : i = n := by omega
      subst hkn
      have hprev : Hid (∀ j, j < rankOf M y → code (M.getD j 0) < code y) := Lib.hid (fun j hj => rank_prev HS.out y hj)
      have hat : Hid (rankOf M y < M.length → code y ≤ code (M.getD (rankOf M y) 0)) := Lib.hid (fun h => rank_at HS.out y h)
      have hre : Hid (rankOf xs y = rankOf M y) := Lib.hid (rankOf_perm HP.out y)
      obtain ⟨r, hr⟩ : ∃ r, Hid (rankOf M y = r) := ⟨_, rfl⟩
      rw [hr.out] at hprev hat hre
      have hri : r ≤ i := by rw [← hr.out, ← HM.out]; exact rankOf_le _ _
      go_wp2_with fail
      refine (rank_row _ a1 xs i c1 y hn.out hy64.out R1.out).mono ?_
      rintro e w' ⟨rfl, rfl⟩
      rw [hre.out]
      rcases Nat.eq_zero_or_pos r with h0 | h0
      · subst h0
        by_cases hrn : 0 = i
        · subst hrn
          go_wp2_with fail
          refine (awake_any _).mono ?_
          rintro e w9 ⟨rfl, hb9⟩
          have HB9 := Lib.hid (HB.out.trans (hb9.mono (by have := HB.out.size; rw [hB.out] at this; exact this)))
          clear hb9
          go_wp2
          go_ret
          exact ⟨rfl, HB9.out⟩
        · have hrl : 0 < i := by omega
          have hri0 : ¬ (0 : Int) = (i : Int) := by omega
          obtain ⟨hs, g3, rfl, hcell5⟩ := row_at R3.out (i := 0) (by rw [HM.out]; exact hrl)
          have ho2 := hat.out (by rw [HM.out]; exact hrl)
          have hs64 := Lib.hid hs
          clear hs
          obtain ⟨m1, hm1⟩ : ∃ m1, Hid (M.getD 0 0 = m1) := ⟨_, rfl⟩
          rw [hm1.out] at hs64 hcell5 ho2
          have hq2 : 0 ≤ cmpN (code m1) (code y) := by have := cmp_ge (show ¬ code m1 < code y by omega); omega
          clear ho2
          go_wp2_with fail
          refine (cmp_any m1 y hs64.out hy64.out _).mono ?_
          rintro e w' ⟨rfl, rfl⟩
          go_wp2_with fail
          refine (awake_any _).mono ?_
          rintro e w9 ⟨rfl, hb9⟩
          have HB9 := Lib.hid (HB.out.trans (hb9.mono (by have := HB.out.size; rw [hB.out] at this; exact this)))
          clear hb9
          go_wp2
          go_ret
          exact ⟨rfl, HB9.out⟩
      · obtain ⟨rm, hrm⟩ : ∃ rm, rm + 1 = r := ⟨r - 1, by omega⟩
        have e1 : (r : Int) - 1 = (rm : Int) := by omega
        have hr0 : ¬ (r : Int) = 0 := by omega
        have hrm2 : rm < i := by omega
        obtain ⟨hp, g3, rfl, hcell4⟩ := row_at R3.out (i := rm) (by rw [HM.out]; exact hrm2)
        have ho := hprev.out rm (by omega)
        have hp64 := Lib.hid hp
        clear hp
        obtain ⟨m0, hm0⟩ : ∃ m0, Hid (M.getD rm 0 = m0) := ⟨_, rfl⟩
        rw [hm0.out] at hp64 hcell4 ho
        have hq := cmp_lt ho
        clear ho
        by_cases hrn : r = i
        · subst hrn
          go_wp2_with fail
          refine (cmp_any m0 y hp64.out hy64.out _).mono ?_
          rintro e w' ⟨rfl, rfl⟩
          go_wp2_with fail
          refine (awake_any _).mono ?_
          rintro e w9 ⟨rfl, hb9⟩
          have HB9 := Lib.hid (HB.out.trans (hb9.mono (by have := HB.out.size; rw [hB.out] at this; exact this)))
          clear hb9
          go_wp2
          go_ret
          exact ⟨rfl, HB9.out⟩
        · have hrl : r < i := by omega
          have hri0 : ¬ (r : Int) = (i : Int) := by omega
          obtain ⟨hs, _, e9, hcell5⟩ := row_at R3.out (i := r) (by rw [HM.out]; exact hrl)
          cases e9
          have ho2 := hat.out (by rw [HM.out]; exact hrl)
          have hs64 := Lib.hid hs
          clear hs
          obtain ⟨m1, hm1⟩ : ∃ m1, Hid (M.getD r 0 = m1) := ⟨_, rfl⟩
          rw [hm1.out] at hs64 hcell5 ho2
          have hq2 : 0 ≤ cmpN (code m1) (code y) := by have := cmp_ge (show ¬ code m1 < code y by omega); omega
          clear ho2
          go_wp2_with fail
          refine (cmp_any m0 y hp64.out hy64.out _).mono ?_
          rintro e w' ⟨rfl, rfl⟩
          go_wp2_with fail
          refine (cmp_any m1 y hs64.out hy64.out _).mono ?_
          rintro e w' ⟨rfl, rfl⟩
          go_wp2_with fail
          refine (awake_any _).mono ?_
          rintro e w9 ⟨rfl, hb9⟩
          have HB9 := Lib.hid (HB.out.trans (hb9.mono (by have := HB.out.size; rw [hB.out] at this; exact this)))
          clear hb9
          go_wp2
          go_ret
          exact ⟨rfl, HB9.out⟩

end Go.Proofs.Ytohkjjmknpbdaaa
