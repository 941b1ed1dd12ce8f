/- symMerge (package slices), where the right run is one alone. -/
import Derived.Test.YtohkjjmknpbdaaaMerge
namespace Go.Proofs.Ytohkjjmknpbdaaa
open Go.RowKit Fl

/-- one behind a run: where it is to stand -/
def LastRel (w : World) (L : List Nat) (y a : Nat) (i j : Value) (wr : World) : Prop :=
  ∃ ii jj p q n : Nat, wr = w.drewN n ∧ ii = a + p ∧ jj = a + q ∧ p ≤ q ∧ q ≤ L.length ∧ i = .int .i64 ii ∧ j = .int .i64 jj ∧ (∀ t, t < p → ¬ code y < code (L.getD t 0)) ∧ (∀ t, q ≤ t → t < L.length → code y < code (L.getD t 0))

def BubRelB (w : World) (B g cap : Nat) (P T C S : List Nat) (y ii : Nat) (k : Value) (wr : World) : Prop :=
  ∃ kk r : Nat, kk = ii + r ∧ r ≤ C.length ∧ k = .int .i64 kk ∧ Sr wr B g cap (P ++ T ++ C.take r ++ y :: (C.drop r ++ S)) ∧ Below B w wr

set_option maxRecDepth 100000 in
set_option maxHeartbeats 6400000 in
theorem merge_last (w : World) (B g cap : Nat) (P L S : List Nat) (y a m b len : Nat) (ha : a = P.length) (hm : m = a + L.length) (hb : b = m + 1) (h2L : 2 ≤ L.length)
    (hlen : len = (P ++ L ++ [y] ++ S).length) (h100 : len ≤ 1000) (hL : Srt L) (h64 : W64 (P ++ L ++ [y] ++ S)) (h : Sr w B g cap (P ++ L ++ [y] ++ S)) :
    Calls Try.prog 47 #[.slice (some ⟨g, 0, none⟩) len cap, .int .i64 a, .int .i64 m, .int .i64 b, cmpF] w (MgEnd w B g cap P (L ++ [y]) S) := by
  have H := Lib.hid h
  have hlen2 : len = P.length + L.length + 1 + S.length := by rw [hlen]; simp; omega
  have Ha := Lib.hid ha
  have Hm := Lib.hid hm
  have Hb := Lib.hid hb
  have HS := Lib.hid hL
  have H64 := Lib.hid h64
  have hy64 : y < 18446744073709551616 := h64 y (by simp)
  have i1 : a + 2 ≤ m := by omega
  have i2 : m < len := by omega
  have i3 : m < b := by omega
  have i4 : b ≤ len := by omega
  have e1 : ((m : Int) - (a : Int) == 1) = false := by simp; omega
  have e2 : (b : Int) - (m : Int) = 1 := by omega
  have cx : w.cell? ⟨g, m, none⟩ = some (.float .f64 y) := by
    have := sr_cell h (i := m) (by omega)
    rw [show P ++ L ++ [y] ++ S = (P ++ L) ++ y :: S from by simp, getD_mid _ _ _ (by simp; omega)] at this
    exact this
  have hcL := Lib.hid (run_cells (m := a) (P := P) (R := L) (S := [y] ++ S) ha (by simpa using h64) (by simpa using h))
  have hlow : B ≤ g := (sr_low h (by simp)).1
  have Cx := Lib.hid cx
  have hLS := Lib.hid hlen2
  clear cx
  clear h ha hm hb hlen hlen2 hL h64 h2L
  go_enter Try.func47, Try.ntmps47
  go_wp2
  clear e1 e2
  go_loopw [14, 15] (fun i j wr => LastRel w L y a i j wr) (fun i j _ => (intOf j).toNat - (intOf i).toNat)
  case atStart => exact ⟨a, m, 0, L.length, 0, rfl, rfl, Hm.out, Nat.zero_le _, Nat.le_refl _, rfl, rfl, by intro t ht; omega, by intro t h1 h2; omega⟩
  case round =>
    obtain ⟨ii, jj, p, q, n, hwr, hii, hjj, hpq, hq, rfl, rfl, h1, h2⟩ := hrel
    have cyr : wr.cell? ⟨g, m, none⟩ = some (.float .f64 y) := by rw [hwr]; exact Cx.out
    have HW := Lib.hid hwr
    clear hwr
    have H1 := Lib.hid h1
    have H2 := Lib.hid h2
    have Hi := Lib.hid hii
    have Hj := Lib.hid hjj
    have Hq := Lib.hid hq
    have Hpq := Lib.hid hpq
    have j1 : ii ≤ m := by have := Hm.out; omega
    have j2 : jj ≤ m := by have := Hm.out; omega
    clear h1 h2 hii hjj hq hpq
    by_cases hlt : ii < jj
    · obtain ⟨hh, hh1, hh2, hh3⟩ := half_u64 (i := ii) (j := jj) (by omega)
      have k1 : ii ≤ hh := by omega
      have k2 : hh < jj := by omega
      have hhl : hh < len := by omega
      obtain ⟨r, hr⟩ : ∃ r, hh = a + r := ⟨hh - a, by have := Hi.out; omega⟩
      have hrl : r < L.length := by have := Hj.out; have := Hq.out; omega
      obtain ⟨cr0, hx64⟩ := hcL.out r hrl
      have cr : wr.cell? ⟨g, hh, none⟩ = some (.float .f64 (L.getD r 0)) := by rw [HW.out, hr]; exact cr0
      clear cr0
      have Hr := Lib.hid hr
      have Hrl := Lib.hid hrl
      have Hy : Hid (∀ t, t ≤ r → code (L.getD t 0) ≤ code (L.getD r 0)) := Lib.hid (fun t ht => srt_mono HS.out ht hrl)
      have Hy2 : Hid (∀ t, r ≤ t → t < L.length → code (L.getD r 0) ≤ code (L.getD t 0)) := Lib.hid (fun t ht h2 => srt_mono HS.out ht h2)
      clear hr hrl hh1
      generalize hX : L.getD r 0 = x at *
      clear hX
      by_cases hc : code y < code x
      · have hcc := cmp_lt hc
        have hcb : (!decide (cmpN (code y) (code x) < 0)) = false := by simp [hcc]
        have hcd : decide (0 ≤ cmpN (code y) (code x)) = false := by simp; omega
        have Hc := Lib.hid hc
        clear hc
        go_wp2
        go_quiet ((go_at_call 20; exact Calls.quiet_of_same (cmp_quiet _ _ hy64 hx64 _)))
        go_wp2
        go_roundw
        case rel => exact ⟨ii, hh, p, r, _, by rw [HW.out, World.drewN_drewN], Hi.out, Hr.out, by have := Hr.out; have := Hi.out; omega, by have := Hrl.out; omega, rfl, rfl, H1.out, fun t ht hl => by have := Hy2.out t ht hl; have := Hc.out; omega⟩
        case measure => simp [intOf]; omega
      · have hcc := cmp_ge hc
        have hcb : (!decide (cmpN (code y) (code x) < 0)) = true := by simp; omega
        have Hc := Lib.hid hc
        clear hc
        go_wp2
        go_quiet ((go_at_call 20; exact Calls.quiet_of_same (cmp_quiet _ _ hy64 hx64 _)))
        go_wp2
        go_roundw
        case rel => exact ⟨hh + 1, jj, r + 1, q, _, by rw [HW.out, World.drewN_drewN], by have := Hr.out; omega, Hj.out, by have := Hr.out; have := Hj.out; omega, Hq.out, by go_num, rfl, fun t ht => by have := Hy.out t (by omega); have := Hc.out; omega, H2.out⟩
        case measure => simp [intOf]; omega
    · have Hpe : Hid (p = q) := Lib.hid (by have := Hi.out; have := Hj.out; have := Hpq.out; omega)
      have hTl : Hid ((L.take p).length = p) := Lib.hid (by have := Hpe.out; have := Hq.out; simp; omega)
      have hT1 : Hid (∀ z ∈ L.take p, ¬ code y < code z) := Lib.hid (by
        intro z hz
        obtain ⟨t, ht, _, rfl⟩ := mem_take_at hz
        exact H1.out t ht)
      have hT2 : Hid (∀ z ∈ L.drop p, code y < code z) := Lib.hid (by
        intro z hz
        obtain ⟨t, ht, hl, rfl⟩ := mem_drop_at hz
        exact H2.out t (by have := Hpe.out; omega) hl)
      have hsr : Hid (Srt (L.take p ++ y :: L.drop p)) := Lib.hid (by
        refine srt_append.2 ⟨srt_take HS.out p, srt_cons.2 ⟨fun z hz => by have := hT2.out z hz; omega, srt_drop HS.out p⟩, ?_⟩
        intro u hu z hz
        have h1 := hT1.out u hu
        rcases List.mem_cons.1 hz with rfl | hz
        · omega
        · have := hT2.out z hz; omega)
      have hpm : Hid ((L.take p ++ y :: L.drop p).Perm (L ++ [y])) := Lib.hid (by
        refine List.perm_middle.trans ?_
        rw [List.take_append_drop]
        exact (List.perm_append_singleton y L).symm)
      have hst : Hid (Sr w B g cap (P ++ L.take p ++ L.drop p ++ y :: S)) := Lib.hid (by
        have := H.out
        rw [List.append_assoc P, List.take_append_drop]
        simpa using this)
      have hRlen : Hid (L.length = p + (L.drop p).length) := Lib.hid (by have := Hpe.out; have := Hq.out; simp; omega)
      have hTeq : Hid (L.take p ++ L.drop p = L) := Lib.hid (List.take_append_drop _ _)
      generalize hT : L.take p = T at *
      generalize hC : L.drop p = C at *
      have him : a ≤ ii := by have := Hi.out; omega
      have hst2 := Lib.hid (sr_drew hst.out n)
      rw [← HW.out] at hst2
      have hbw : Hid (Below B w wr) := Lib.hid (by rw [HW.out]; exact below_drewN (Below.refl _ _) n)
      clear H1 H2 hcL Hq Hj cyr hT hC
      go_wp2
      clear hlt j2
      go_loopw [17] (fun k wr => BubRelB w B g cap P T C S y ii k wr) (fun k _ => (intOf k).toNat)
      case atStart => exact ⟨m, C.length, by have := Hi.out; have := Hm.out; have := hRlen.out; omega, Nat.le_refl _, rfl, by have := hst2.out; simpa using this, hbw.out⟩
      case round =>
        obtain ⟨kk, r, hkk, hr0, rfl, hr, hbel⟩ := hrel
        have Hk := Lib.hid hkk
        have Ht := Lib.hid hr0
        have HR := Lib.hid hr
        have HB := Lib.hid hbel
        clear hkk hr0 hr hbel
        have hki : kk ≤ m := by have := Hk.out; have := Ht.out; have := hRlen.out; have := Hi.out; have := Hm.out; omega
        by_cases hlt : ii < kk
        · obtain ⟨km, hkm⟩ : ∃ km, kk = km + 1 := ⟨kk - 1, by omega⟩
          obtain ⟨s, hs⟩ : ∃ s, r = s + 1 := ⟨r - 1, by have := Hk.out; omega⟩
          have hsl : s < C.length := by have := Ht.out; omega
          have hD : Hid (Sr wr B g cap ((P ++ T ++ C.take s) ++ C.getD s 0 :: y :: (C.drop (s + 1) ++ S))) := Lib.hid (by
            have := HR.out
            rw [hs, take_snoc' C s hsl] at this
            simpa using this)
          have hA : Hid (km = (P ++ T ++ C.take s).length) := Lib.hid (by have := Hk.out; have := Ha.out; have := hTl.out; have := Hi.out; simp; omega)
          have hDl : Hid (len = ((P ++ T ++ C.take s) ++ C.getD s 0 :: y :: (C.drop (s + 1) ++ S)).length) := Lib.hid (by
            have h1 := hRlen.out
            have h3 := hTl.out
            have h5 := hLS.out
            simp
            omega)
          obtain ⟨s1, s2, s3, _⟩ := set_two (P ++ T ++ C.take s) (C.drop (s + 1) ++ S) y (C.getD s 0) hA.out
          have c1 := sr_cell hD.out (i := km) (by rw [← hDl.out]; omega)
          have c2 := sr_cell hD.out (i := kk) (by rw [← hDl.out]; omega)
          rw [s1] at c1
          rw [hkm, s2, ← hkm] at c2
          rw [← hkm] at s3
          have f1 := sr_free hD.out (by simp) km
          have f2 := sr_free hD.out (by simp) kk
          have hnext := Lib.hid (sr_set (sr_set hD.out (i := kk) (by rw [← hDl.out]; omega) (C.getD s 0)) (i := km) (by rw [List.length_set, ← hDl.out]; omega) y)
          rw [s3] at hnext
          have hB2 := Lib.hid ((HB.out.setCell (p := ⟨g, kk, none⟩) hlow (.float .f64 (C.getD s 0))).setCell (p := ⟨g, km, none⟩) hlow (.float .f64 y))
          have e1 : (kk : Int) - 1 = (km : Int) := by omega
          have hkm2 : km < kk := by omega
          have Hkm := Lib.hid hkm
          have Hs := Lib.hid hs
          have Hsl := Lib.hid hsl
          have hdn : Hid (C.getD s 0 :: C.drop (s + 1) = C.drop s) := Lib.hid (drop_cons' C s hsl).symm
          clear s1 s2 s3 hkm hs hsl
          generalize hZ : C.getD s 0 = z at *
          clear hZ
          go_wp2
          go_region
          go_wp2
          go_roundw
          case rel =>
            refine ⟨km, s, by have := Hk.out; have := Hkm.out; have := Hs.out; omega, by have := Hsl.out; omega, rfl, ?_, hB2.out.drew⟩
            rw [show P ++ T ++ C.take s ++ y :: (C.drop s ++ S) = (P ++ T ++ C.take s) ++ y :: z :: (C.drop (s + 1) ++ S) from by rw [← hdn.out]; simp]
            exact sr_drew hnext.out 1
          case measure => simp [intOf]; have := Hkm.out; omega
        · have hte : Hid (r = 0) := Lib.hid (by have := Hk.out; omega)
          have hfin : Hid (Sr wr B g cap (P ++ (T ++ y :: C) ++ S)) := Lib.hid (by
            have := HR.out
            rw [hte.out] at this
            simpa using this)
          go_wp2
          first | go_end0 | refine bodyPost_ret (results_none rfl _ _ _) rfl ?_
          exact ⟨rfl, _, hpm.out, hsr.out, hfin.out, HB.out⟩

end Go.Proofs.Ytohkjjmknpbdaaa
