/- symMerge (package slices) over a row of floats that the call owns, by num.Cmp: two runs in order, side by side, become one. -/
import Derived.Test.YtohkjjmknpbdaaaInsert
namespace Go.Proofs.Ytohkjjmknpbdaaa
open Go.RowKit Fl

theorem mem_take_at {R : List Nat} {p y : Nat} (h : y ∈ R.take p) : ∃ t, t < p ∧ t < R.length ∧ R.getD t 0 = y := by
  obtain ⟨t, ht, e⟩ := List.mem_iff_getElem.1 h
  have h2 : t < p ∧ t < R.length := by simp at ht; omega
  exact ⟨t, h2.1, h2.2, by rw [← e]; simp [List.getD, h2.2]⟩

theorem mem_drop_at {R : List Nat} {p y : Nat} (h : y ∈ R.drop p) : ∃ t, p ≤ t ∧ t < R.length ∧ R.getD t 0 = y := by
  obtain ⟨t, ht, e⟩ := List.mem_iff_getElem.1 h
  have h2 : p + t < R.length := by simp at ht; omega
  exact ⟨p + t, by omega, h2, by rw [← e]; simp [List.getD, h2]⟩

theorem srt_mono {R : List Nat} (h : Srt R) {i j : Nat} (hij : i ≤ j) (hj : j < R.length) : code (R.getD i 0) ≤ code (R.getD j 0) := by
  rcases Nat.lt_or_eq_of_le hij with h1 | h1
  · have := List.pairwise_iff_getElem.1 h i j (by omega) hj h1
    simpa [List.getD, hj, (show i < R.length by omega)] using this
  · rw [h1]; exact Nat.le_refl _

theorem srt_take {R : List Nat} (h : Srt R) (p : Nat) : Srt (R.take p) := h.sublist (List.take_sublist _ _)
theorem srt_drop {R : List Nat} (h : Srt R) (p : Nat) : Srt (R.drop p) := h.sublist (List.drop_sublist _ _)

theorem getD_at (A C : List Nat) (t : Nat) {i : Nat} (hi : i = A.length + t) : (A ++ C).getD i 0 = C.getD t 0 := by
  subst hi
  simp [List.getD, List.getElem?_append_right]

theorem getD_left (A C : List Nat) {t : Nat} (h : t < A.length) : (A ++ C).getD t 0 = A.getD t 0 := by
  simp [List.getD, List.getElem?_append_left h]

theorem getD_mem {R : List Nat} {t : Nat} (h : t < R.length) : R.getD t 0 ∈ R := by
  rw [List.getD_eq_getElem?_getD, List.getElem?_eq_getElem h]; simp

/-- the cells of a run within a row -/
theorem run_cells {w : World} {B g cap : Nat} {P R S : List Nat} {m : Nat} (hm : m = P.length) (h64 : W64 (P ++ R ++ S)) (h : Sr w B g cap (P ++ R ++ S)) :
    ∀ t, t < R.length → w.cell? ⟨g, m + t, none⟩ = some (.float .f64 (R.getD t 0)) ∧ R.getD t 0 < 18446744073709551616 := by
  intro t ht
  have := sr_cell h (i := m + t) (by simp; omega)
  have e : (P ++ R ++ S).getD (m + t) 0 = R.getD t 0 := by
    rw [List.append_assoc, getD_at P (R ++ S) t (by rw [hm]), getD_left _ _ ht]
  rw [e] at this
  have hmem := getD_mem ht
  exact ⟨this, h64 _ (by rw [List.mem_append, List.mem_append]; exact .inl (.inr hmem))⟩

/-- the middle of two places, as the text reckons it -/
theorem half_u64 {i j : Nat} (h : i + j ≤ 100000) : ∃ h : Nat, h = (i + j) / 2 ∧ IntKind.u64.wrap ((i : Int) + (j : Int)) = (i : Int) + (j : Int) ∧ ((i : Int) + (j : Int)) / 2 = (h : Int) :=
  ⟨_, rfl, by rw [IntKind.wrap_u64]; omega, by omega⟩

/-- how such a call ends -/
def MgEnd (w : World) (B g cap : Nat) (P X S : List Nat) (e : Ending) (w' : World) : Prop :=
  e = .returned (.tuple #[]) ∧ ∃ M : List Nat, M.Perm X ∧ Srt M ∧ Sr w' B g cap (P ++ M ++ S) ∧ Below B w w'

/-- one ahead of a run: where it is to stand -/
def OneRel (w : World) (R : List Nat) (x m : Nat) (i j : Value) (wr : World) : Prop :=
  ∃ ii jj p q n : Nat, wr = w.drewN n ∧ ii = m + p ∧ jj = m + q ∧ p ≤ q ∧ q ≤ R.length ∧ i = .int .i64 ii ∧ j = .int .i64 jj ∧ (∀ t, t < p → code (R.getD t 0) < code x) ∧ (∀ t, q ≤ t → t < R.length → ¬ code (R.getD t 0) < code x)

def BubRel (w : World) (B g cap : Nat) (P T C : List Nat) (x a : Nat) (k : Value) (wr : World) : Prop :=
  ∃ kk t : Nat, kk = a + t ∧ t ≤ T.length ∧ k = .int .i64 kk ∧ Sr wr B g cap (P ++ T.take t ++ x :: (T.drop t ++ C)) ∧ Below B w wr

set_option maxRecDepth 100000 in
set_option maxHeartbeats 6400000 in
theorem merge_one (w : World) (B g cap : Nat) (P R S : List Nat) (x a m b len : Nat) (ha : a = P.length) (hm : m = a + 1) (hb : b = m + R.length)
    (hlen : len = (P ++ [x] ++ R ++ S).length) (h100 : len ≤ 1000) (hR : Srt R) (h64 : W64 (P ++ [x] ++ R ++ S)) (h : Sr w B g cap (P ++ [x] ++ R ++ S)) :
    Calls Try.prog 47 #[.slice (some ⟨g, 0, none⟩) len cap, .int .i64 a, .int .i64 m, .int .i64 b, cmpF] w (MgEnd w B g cap P ([x] ++ R) S) := by
  have H := Lib.hid h
  have hlen2 : len = P.length + 1 + R.length + S.length := by rw [hlen]; simp; omega
  have Ha := Lib.hid ha
  have Hm := Lib.hid hm
  have Hb := Lib.hid hb
  have HS := Lib.hid hR
  have H64 := Lib.hid h64
  have hx64 : x < 18446744073709551616 := h64 x (by simp)
  have i1 : m ≤ b := by omega
  have i0 : a < len := by omega
  have i3 : a < m := by omega
  have i2 : b ≤ len := by omega
  have e1 : (m : Int) - (a : Int) = 1 := by omega
  have cx : w.cell? ⟨g, a, none⟩ = some (.float .f64 x) := by
    have := sr_cell h (i := a) (by omega)
    rw [show P ++ [x] ++ R ++ S = P ++ x :: (R ++ S) from by simp, getD_mid _ _ _ ha] at this
    exact this
  have hcR := Lib.hid (run_cells (m := m) (P := P ++ [x]) (by simp; omega) h64 h)
  have hlow : B ≤ g := (sr_low h (by simp)).1
  have Cx := Lib.hid cx
  have hLS := Lib.hid hlen2
  clear cx
  clear h ha hm hb hlen hlen2 hR h64
  go_enter Try.func47, Try.ntmps47
  go_wp2
  clear e1
  go_loopw [10, 11] (fun i j wr => OneRel w R x m i j wr) (fun i j _ => (intOf j).toNat - (intOf i).toNat)
  case atStart => exact ⟨m, b, 0, R.length, 0, rfl, rfl, Hb.out, Nat.zero_le _, Nat.le_refl _, rfl, rfl, by intro t ht; omega, by intro t h1 h2; omega⟩
  case round =>
    obtain ⟨ii, jj, p, q, n, hwr, hii, hjj, hpq, hq, rfl, rfl, h1, h2⟩ := hrel
    have cxr : wr.cell? ⟨g, a, none⟩ = some (.float .f64 x) := by rw [hwr]; exact Cx.out
    have HW := Lib.hid hwr
    clear hwr
    have H1 := Lib.hid h1
    have H2 := Lib.hid h2
    have Hi := Lib.hid hii
    have Hj := Lib.hid hjj
    have Hq := Lib.hid hq
    have Hpq := Lib.hid hpq
    have j1 : ii ≤ 1000 := by have := Hb.out; omega
    have j2 : jj ≤ 1000 := by have := Hb.out; omega
    clear h1 h2 hii hjj hq hpq
    by_cases hlt : ii < jj
    · obtain ⟨hh, hh1, hh2, hh3⟩ := half_u64 (i := ii) (j := jj) (by omega)
      have k1 : ii ≤ hh := by omega
      have k2 : hh < jj := by omega
      have hhl : hh < len := by have := Hb.out; have := Hj.out; have := Hq.out; omega
      obtain ⟨r, hr⟩ : ∃ r, hh = m + r := ⟨hh - m, by have := Hi.out; omega⟩
      have hrl : r < R.length := by have := Hj.out; have := Hq.out; omega
      obtain ⟨cr0, hy64⟩ := hcR.out r hrl
      have cr : wr.cell? ⟨g, hh, none⟩ = some (.float .f64 (R.getD r 0)) := by rw [HW.out, hr]; exact cr0
      clear cr0
      have Hr := Lib.hid hr
      have Hrl := Lib.hid hrl
      have Hy : Hid (∀ t, t ≤ r → code (R.getD t 0) ≤ code (R.getD r 0)) := Lib.hid (fun t ht => srt_mono HS.out ht hrl)
      have Hy2 : Hid (∀ t, r ≤ t → t < R.length → code (R.getD r 0) ≤ code (R.getD t 0)) := Lib.hid (fun t ht h2 => srt_mono HS.out ht h2)
      clear hr hrl hh1
      generalize hY : R.getD r 0 = y at *
      clear hY
      by_cases hc : code y < code x
      · have hcc := cmp_lt hc
        have Hc := Lib.hid hc
        clear hc
        go_wp2
        go_quiet ((go_at_call 20; exact Calls.quiet_of_same (cmp_quiet _ _ hy64 hx64 _)))
        go_wp2
        go_roundw
        case rel => exact ⟨hh + 1, jj, r + 1, q, _, by rw [HW.out, World.drewN_drewN], by have := Hr.out; omega, Hj.out, by have := Hr.out; have := Hj.out; omega, Hq.out, by go_num, rfl, fun t ht => by have := Hy.out t (by omega); have := Hc.out; omega, H2.out⟩
        case measure => simp [intOf]; omega
      · have hcc := cmp_ge hc
        have Hc := Lib.hid hc
        clear hc
        go_wp2
        go_quiet ((go_at_call 20; exact Calls.quiet_of_same (cmp_quiet _ _ hy64 hx64 _)))
        go_wp2
        go_roundw
        case rel => exact ⟨ii, hh, p, r, _, by rw [HW.out, World.drewN_drewN], Hi.out, Hr.out, by have := Hr.out; have := Hi.out; omega, by have := Hrl.out; omega, rfl, rfl, H1.out, fun t ht hl => by have := Hy2.out t ht hl; have := Hc.out; omega⟩
        case measure => simp [intOf]; omega
    · have Hpe : Hid (p = q) := Lib.hid (by have := Hi.out; have := Hj.out; have := Hpq.out; omega)
      have hTl : Hid ((R.take p).length = p) := Lib.hid (by have := Hpe.out; have := Hq.out; simp; omega)
      have hT1 : Hid (∀ y ∈ R.take p, code y < code x) := Lib.hid (by
        intro y hy
        obtain ⟨t, ht, _, rfl⟩ := mem_take_at hy
        exact H1.out t ht)
      have hT2 : Hid (∀ y ∈ R.drop p, ¬ code y < code x) := Lib.hid (by
        intro y hy
        obtain ⟨t, ht, hl, rfl⟩ := mem_drop_at hy
        exact H2.out t (by have := Hpe.out; omega) hl)
      have hsr : Hid (Srt (R.take p ++ x :: R.drop p)) := Lib.hid (by
        refine srt_append.2 ⟨srt_take HS.out p, srt_cons.2 ⟨fun y hy => by have := hT2.out y hy; omega, srt_drop HS.out p⟩, ?_⟩
        intro y hy z hz
        have h1 := hT1.out y hy
        rcases List.mem_cons.1 hz with rfl | hz
        · omega
        · have := hT2.out z hz; omega)
      have hpm : Hid ((R.take p ++ x :: R.drop p).Perm ([x] ++ R)) := Lib.hid (by
        refine List.perm_middle.trans ?_
        rw [List.take_append_drop]
        exact List.Perm.refl _)
      have hst : Hid (Sr w B g cap (P ++ [] ++ x :: (R.take p ++ (R.drop p ++ S)))) := Lib.hid (by
        have := H.out
        rw [show R.take p ++ (R.drop p ++ S) = R ++ S from by rw [← List.append_assoc, List.take_append_drop]]
        simpa using this)
      have hTeq : Hid (R.take p ++ R.drop p = R) := Lib.hid (List.take_append_drop _ _)
      have hRlen : Hid (R.length = p + (R.drop p).length) := Lib.hid (by have := Hpe.out; have := Hq.out; simp; omega)
      generalize hT : R.take p = T at *
      generalize hC : R.drop p = C at *
      have him : m ≤ ii := by have := Hi.out; omega
      have hT64 : Hid (W64 T) := Lib.hid (fun y hy => H64.out y (by rw [← hTeq.out]; simp [hy]))
      clear H1 H2 hcR Hq Hj cxr hT hC
      have hst2 := Lib.hid (sr_drew hst.out n)
      rw [← HW.out] at hst2
      have hbw : Hid (Below B w wr) := Lib.hid (by rw [HW.out]; exact below_drewN (Below.refl _ _) n)
      go_wp2
      clear hlt j1 j2
      go_loopw [13] (fun k wr => BubRel w B g cap P T (C ++ S) x a k wr) (fun k _ => ii - (intOf k).toNat)
      case atStart => exact ⟨a, 0, rfl, Nat.zero_le _, rfl, by have := hst2.out; simpa using this, hbw.out⟩
      case round =>
        obtain ⟨kk, t, hkk, ht, rfl, hr, hbel⟩ := hrel
        have Hk := Lib.hid hkk
        have Ht := Lib.hid ht
        have HR := Lib.hid hr
        have HB := Lib.hid hbel
        clear hkk ht hr hbel
        have hki : kk < ii := by have := Hk.out; have := Ht.out; have := hTl.out; have := Hi.out; have := Hm.out; omega
        have hil : ii ≤ len := by have := Hi.out; have := Hb.out; have := hRlen.out; omega
        by_cases hlt : kk + 1 < ii
        · have htl : t < T.length := by have := hTl.out; have := Hk.out; have := Hi.out; have := Hm.out; omega
          have hD : Hid (Sr wr B g cap ((P ++ T.take t) ++ x :: T.getD t 0 :: (T.drop (t + 1) ++ (C ++ S)))) := Lib.hid (by
            have := HR.out
            rw [drop_cons' T t htl] at this
            simpa using this)
          have hA : Hid (kk = (P ++ T.take t).length) := Lib.hid (by have := Hk.out; have := Ha.out; simp; omega)
          have hDl : Hid (len = ((P ++ T.take t) ++ x :: T.getD t 0 :: (T.drop (t + 1) ++ (C ++ S))).length) := Lib.hid (by
            have h1 := hRlen.out
            have h2 := Hb.out
            have h3 := hTl.out
            have h5 := hLS.out
            have h6 := Ht.out
            simp
            omega)
          obtain ⟨s1, s2, _, s4⟩ := set_two (P ++ T.take t) (T.drop (t + 1) ++ (C ++ S)) (T.getD t 0) x hA.out
          have c1 := sr_cell hD.out (i := kk) (by rw [← hDl.out]; omega)
          have c2 := sr_cell hD.out (i := kk + 1) (by rw [← hDl.out]; omega)
          rw [s1] at c1
          rw [s2] at c2
          have f1 := sr_free hD.out (by simp) kk
          have f2 := sr_free hD.out (by simp) (kk + 1)
          have hnext := Lib.hid (sr_set (sr_set hD.out (i := kk) (by rw [← hDl.out]; omega) (T.getD t 0)) (i := kk + 1) (by rw [List.length_set, ← hDl.out]; omega) x)
          rw [s4] at hnext
          have hB2 := Lib.hid ((HB.out.setCell (p := ⟨g, kk, none⟩) hlow (.float .f64 (T.getD t 0))).setCell (p := ⟨g, kk + 1, none⟩) hlow (.float .f64 x))
          have htn : Hid (T.take t ++ [T.getD t 0] = T.take (t + 1)) := Lib.hid (take_snoc' T t htl).symm
          have e1 : ((kk : Int) + 1).toNat = kk + 1 := by omega
          have Htl := Lib.hid htl
          clear s1 s2 s4 htl
          generalize hZ : T.getD t 0 = z at *
          clear hZ
          go_wp2
          go_region
          go_wp2
          go_roundw
          case rel =>
            refine ⟨kk + 1, t + 1, by have := Hk.out; omega, Htl.out, by go_num, ?_, hB2.out.drew⟩
            rw [show P ++ T.take (t + 1) ++ x :: (T.drop (t + 1) ++ (C ++ S)) = (P ++ T.take t) ++ z :: x :: (T.drop (t + 1) ++ (C ++ S)) from by rw [← htn.out]; simp]
            exact sr_drew hnext.out 1
          case measure => simp [intOf]; omega
        · have hte : Hid (t = T.length) := Lib.hid (by have := hTl.out; have := Hk.out; have := Hi.out; have := Hm.out; have := Ht.out; omega)
          have hfin : Hid (Sr wr B g cap (P ++ (T ++ x :: C) ++ S)) := Lib.hid (by
            have := HR.out
            rw [hte.out, List.take_length, List.drop_length] at this
            simpa using this)
          have hlt2 : ¬ (kk : Int) < (ii : Int) - 1 := by omega
          go_wp2
          first | go_end0 | refine bodyPost_ret (results_none rfl _ _ _) rfl ?_
          exact ⟨rfl, _, hpm.out, hsr.out, hfin.out, HB.out⟩

end Go.Proofs.Ytohkjjmknpbdaaa
