/- symMerge (package slices), whole: two runs in order, side by side, become one. -/
import Derived.Test.YtohkjjmknpbdaaaMergeB
import Derived.Deep.DeepCutAuto
namespace Go.Proofs.Ytohkjjmknpbdaaa
open Go.RowKit Fl

/-- the search for the place at which the two runs are parted -/
def SymRel (w : World) (E : Nat → Nat) (s0 r0 pp : Nat) (i j : Value) (wr : World) : Prop :=
  ∃ s r n : Nat, wr = w.drewN n ∧ s0 ≤ s ∧ s ≤ r ∧ r ≤ r0 ∧ i = .int .i64 s ∧ j = .int .i64 r ∧ (∀ c, s0 ≤ c → c < s → ¬ code (E (pp - c)) < code (E c)) ∧ (∀ c, r ≤ c → c < r0 → code (E (pp - c)) < code (E c))

/-- all that the parts of two runs have to do with each other -/
structure Parts (L R : List Nat) (a m b mid s ee : Nat) : Prop where
  ga : a ≤ s
  sm : s ≤ m
  me : m ≤ ee
  eb : ee ≤ b
  sum : mid + m = s + ee
  mids : s ≤ mid
  mide : mid ≤ ee
  lr : ∀ x ∈ L.take (s - a), ∀ y ∈ R.drop (ee - m), code x ≤ code y
  rl : ∀ x ∈ R.take (ee - m), ∀ y ∈ L.drop (s - a), code x ≤ code y

theorem parts_sorted {L R M1 M2 : List Nat} {a m b mid s ee : Nat} (h : Parts L R a m b mid s ee) (hL : Srt L) (hR : Srt R)
    (p1 : M1.Perm (L.take (s - a) ++ R.take (ee - m))) (p2 : M2.Perm (L.drop (s - a) ++ R.drop (ee - m))) (s1 : Srt M1) (s2 : Srt M2) : Srt (M1 ++ M2) ∧ (M1 ++ M2).Perm (L ++ R) := by
  constructor
  · refine srt_append.2 ⟨s1, s2, ?_⟩
    intro x hx y hy
    have hL2 := hL
    rw [← List.take_append_drop (s - a) L] at hL2
    have hR2 := hR
    rw [← List.take_append_drop (ee - m) R] at hR2
    rcases List.mem_append.1 (p1.mem_iff.1 hx) with hx | hx <;> rcases List.mem_append.1 (p2.mem_iff.1 hy) with hy | hy
    · exact (srt_append.1 hL2).2.2 x hx y hy
    · exact h.lr x hx y hy
    · exact h.rl x hx y hy
    · exact (srt_append.1 hR2).2.2 x hx y hy
  · refine (p1.append p2).trans ?_
    have e : (L.take (s - a) ++ L.drop (s - a)) ++ (R.take (ee - m) ++ R.drop (ee - m)) = L ++ R := by rw [List.take_append_drop, List.take_append_drop]
    rw [← e]
    generalize L.take (s - a) = A
    generalize L.drop (s - a) = C
    generalize R.take (ee - m) = D
    generalize R.drop (ee - m) = F
    -- A D C F ~ A C D F
    rw [List.append_assoc, List.append_assoc]
    refine List.Perm.append_left A ?_
    rw [← List.append_assoc, ← List.append_assoc]
    exact List.Perm.append_right F List.perm_append_comm

set_option maxRecDepth 100000 in
set_option maxHeartbeats 12800000 in
theorem merge_any : ∀ (N : Nat) (w : World) (B g cap : Nat) (P L R S : List Nat) (a m b len : Nat), L.length + R.length ≤ N → 0 < L.length → 0 < R.length → a = P.length → m = a + L.length → b = m + R.length →
    len = (P ++ L ++ R ++ S).length → len ≤ 1000 → Srt L → Srt R → W64 (P ++ L ++ R ++ S) → Sr w B g cap (P ++ L ++ R ++ S) →
    Calls Try.prog 47 #[.slice (some ⟨g, 0, none⟩) len cap, .int .i64 a, .int .i64 m, .int .i64 b, cmpF] w (MgEnd w B g cap P (L ++ R) S) := by
  intro N
  induction N with
  | zero => intro w B g cap P L R S a m b len hN hl hr; omega
  | succ N ih =>
  intro w B g cap P L R S a m b len hN hl0 hr0 ha hm hb hlen h100 hL hR h64 h
  by_cases hl1 : L.length = 1
  · obtain ⟨x, rfl⟩ := List.length_eq_one_iff.1 hl1
    exact merge_one w B g cap P R S x a m b len ha (by simpa using hm) hb hlen h100 hR h64 h
  by_cases hr1 : R.length = 1
  · obtain ⟨y, rfl⟩ := List.length_eq_one_iff.1 hr1
    exact merge_last w B g cap P L S y a m b len ha hm (by simpa using hb) (by omega) hlen h100 hL h64 h
  have IH := Lib.hid ih
  have H := Lib.hid h
  have hlen2 : len = P.length + L.length + R.length + S.length := by rw [hlen]; simp; omega
  have Hlen := Lib.hid hlen
  have HLS := Lib.hid hlen2
  have Ha := Lib.hid ha
  have Hm := Lib.hid hm
  have Hb := Lib.hid hb
  have HL := Lib.hid hL
  have HR := Lib.hid hR
  have H64 := Lib.hid h64
  have HN := Lib.hid hN
  have i1 : a + 2 ≤ m := by omega
  have i2 : m + 2 ≤ b := by omega
  have i3 : b ≤ len := by omega
  have e1 : ((m : Int) - (a : Int) == 1) = false := by simp; omega
  have e2 : ((b : Int) - (m : Int) == 1) = false := by simp; omega
  -- the row, place by place
  obtain ⟨E, hE⟩ : ∃ E : Nat → Nat, ∀ c, E c = (P ++ L ++ R ++ S).getD c 0 := ⟨_, fun _ => rfl⟩
  have hEL : ∀ t, t < L.length → E (a + t) = L.getD t 0 := by
    intro t ht
    rw [hE, show P ++ L ++ R ++ S = P ++ (L ++ (R ++ S)) from by simp, getD_at P _ t (by rw [ha]), getD_left _ _ ht]
  have hER : ∀ t, t < R.length → E (m + t) = R.getD t 0 := by
    intro t ht
    rw [hE, show P ++ L ++ R ++ S = (P ++ L) ++ (R ++ S) from by simp, getD_at (P ++ L) _ t (by simp; omega), getD_left _ _ ht]
  have hcell : Hid (∀ c, c < len → w.cell? ⟨g, c, none⟩ = some (.float .f64 (E c)) ∧ E c < 18446744073709551616) := Lib.hid (by
    intro c hc
    refine ⟨by rw [hE]; exact sr_cell h (by omega), ?_⟩
    rw [hE]
    exact h64 _ (getD_mem (by omega)))
  have hmL : Hid (∀ i j, a ≤ i → i ≤ j → j < m → code (E i) ≤ code (E j)) := Lib.hid (by
    intro i j h1 h2 h3
    obtain ⟨t, rfl⟩ : ∃ t, i = a + t := ⟨i - a, by omega⟩
    obtain ⟨u, rfl⟩ : ∃ u, j = a + u := ⟨j - a, by omega⟩
    rw [hEL t (by omega), hEL u (by omega)]
    exact srt_mono hL (by omega) (by omega))
  have hmR : Hid (∀ i j, m ≤ i → i ≤ j → j < b → code (E i) ≤ code (E j)) := Lib.hid (by
    intro i j h1 h2 h3
    obtain ⟨t, rfl⟩ : ∃ t, i = m + t := ⟨i - m, by omega⟩
    obtain ⟨u, rfl⟩ : ∃ u, j = m + u := ⟨j - m, by omega⟩
    rw [hER t (by omega), hER u (by omega)]
    exact srt_mono hR (by omega) (by omega))
  have HEL := Lib.hid hEL
  have HER := Lib.hid hER
  obtain ⟨mid, hmid, hu1, hu2⟩ := half_u64 (i := a) (j := b) (by omega)
  obtain ⟨nn, hnn⟩ : ∃ nn, nn = mid + m := ⟨_, rfl⟩
  obtain ⟨pp, hpp⟩ : ∃ pp, pp = nn - 1 := ⟨_, rfl⟩
  have e3 : (mid : Int) + (m : Int) = (nn : Int) := by omega
  have e4 : (nn : Int) - 1 = (pp : Int) := by omega
  have hlow : B ≤ g := (sr_low h (by intro e; rw [e] at hlen; simp at hlen; omega)).1
  obtain ⟨s0, r0, hcase, f1, f2, f3, f4, f5, f6, f7, f8⟩ : ∃ s0 r0 : Nat, ((mid < m ∧ nn = s0 + b ∧ r0 = mid) ∨ (m ≤ mid ∧ s0 = a ∧ r0 = m)) ∧ a ≤ s0 ∧ s0 ≤ r0 ∧ r0 ≤ m ∧ nn ≤ b + s0 ∧ m + r0 ≤ nn ∧ r0 ≤ mid ∧ (s0 = a ∨ nn = b + s0) ∧ (r0 = m ∨ nn = m + r0) := by
    by_cases hmm : mid < m
    · exact ⟨nn - b, mid, .inl ⟨hmm, by omega, rfl⟩, by omega, by omega, by omega, by omega, by omega, by omega, by omega, by omega⟩
    · exact ⟨a, m, .inr ⟨by omega, rfl, rfl⟩, by omega, by omega, by omega, by omega, by omega, by omega, by omega, by omega⟩
  have F7 := Lib.hid f7
  have F8 := Lib.hid f8
  have Hnn := Lib.hid hnn
  have Hpp := Lib.hid hpp
  have Hmid := Lib.hid hmid
  have n1 : nn ≤ 2000 := by omega
  have n2 : pp < nn := by omega
  have n3 : nn ≤ pp + 1 := by omega
  clear ih h hN ha hm hb hlen hlen2 hL hR h64 hE hEL hER hnn hpp hmid f7 f8
  have Hcase := Lib.hid hcase
  rcases hcase with ⟨hc1, hc2, hc3⟩ | ⟨hc1, hc2, hc3⟩
  case inl =>
    have e5 : (nn : Int) - (b : Int) = (s0 : Int) := by omega
    have Hc2 := Lib.hid hc2
    have Hc3 := Lib.hid hc3
    clear hc2 hc3 hl1 hr1
    go_enter Try.func47, Try.ntmps47
    go_wp2
    go_loopw [20, 21] (fun i j wr => SymRel w E s0 r0 pp i j wr) (fun i j _ => (intOf j).toNat - (intOf i).toNat)
    case atStart => exact ⟨s0, r0, 0, rfl, Nat.le_refl _, f2, Nat.le_refl _, by first | rfl | rw [Hc2.out], by first | rfl | rw [Hc3.out], by intro c h1 h2; omega, by intro c h1 h2; omega⟩
    case round =>
      obtain ⟨s, r, n, hwr, g1, g2, g3, rfl, rfl, q1, q2⟩ := hrel
      have HW := Lib.hid hwr
      have Q1 := Lib.hid q1
      have Q2 := Lib.hid q2
      clear hwr q1 q2
      by_cases hlt : s < r
      · obtain ⟨c, hc1, hc2, hc3⟩ := half_u64 (i := s) (j := r) (by omega)
        have k1 : s ≤ c := by omega
        have k2 : c < r := by omega
        obtain ⟨pc, hpc⟩ : ∃ pc, pc = pp - c := ⟨_, rfl⟩
        have e6 : (pp : Int) - (c : Int) = (pc : Int) := by omega
        have k3 : pc < len := by omega
        have k4 : c < len := by omega
        obtain ⟨c1, w1⟩ := hcell.out pc k3
        obtain ⟨c2, w2⟩ := hcell.out c k4
        rw [← World.cell?_drewN (n := n), ← HW.out] at c1 c2
        have Hlo : Hid (∀ t, s0 ≤ t → t ≤ c → code (E t) ≤ code (E c) ∧ code (E pc) ≤ code (E (pp - t))) := Lib.hid (by
          intro t h1 h2
          exact ⟨hmL.out t c (by omega) h2 (by omega), hmR.out pc (pp - t) (by omega) (by omega) (by omega)⟩)
        have Hhi : Hid (∀ t, c ≤ t → t < r0 → code (E c) ≤ code (E t) ∧ code (E (pp - t)) ≤ code (E pc)) := Lib.hid (by
          intro t h1 h2
          exact ⟨hmL.out c t (by omega) h1 (by omega), hmR.out (pp - t) pc (by omega) (by omega) (by omega)⟩)
        have Hpc := Lib.hid hpc
        clear hpc hc1
        by_cases hc : code (E pc) < code (E c)
        · have Hnew : Hid (∀ t, c ≤ t → t < r0 → code (E (pp - t)) < code (E t)) := Lib.hid (by
            intro t h1 h2
            have := Hhi.out t h1 h2
            omega)
          generalize E pc = x at *
          generalize E c = y at *
          have hcc := cmp_lt hc
          have hcb : (!decide (cmpN (code x) (code y) < 0)) = false := by simp [hcc]
          have hcd : decide (0 ≤ cmpN (code x) (code y)) = false := by simp; omega
          clear hc Hlo Hhi
          go_wp2
          go_quiet ((go_at_call 20; exact Calls.quiet_of_same (cmp_quiet _ _ w1 w2 _)))
          go_wp2
          go_roundw
          case rel => exact ⟨s, c, _, by rw [HW.out, World.drewN_drewN], g1, k1, by omega, rfl, rfl, Q1.out, Hnew.out⟩
          case measure => simp [intOf]; omega
        · have Hnew : Hid (∀ t, s0 ≤ t → t < c + 1 → ¬ code (E (pp - t)) < code (E t)) := Lib.hid (by
            intro t h1 h2
            have := Hlo.out t h1 (by omega)
            omega)
          generalize E pc = x at *
          generalize E c = y at *
          have hcc := cmp_ge hc
          have hcb : (!decide (cmpN (code x) (code y) < 0)) = true := by simp; omega
          clear hc Hlo Hhi
          go_wp2
          go_quiet ((go_at_call 20; exact Calls.quiet_of_same (cmp_quiet _ _ w1 w2 _)))
          go_wp2
          go_roundw
          case rel => first | exact ⟨c + 1, r, _, by rw [HW.out, World.drewN_drewN], by omega, by omega, g3, by go_num, rfl, Hnew.out, Q2.out⟩ | ((repeat apply Exists.intro); exact ⟨⟨c + 1, r, _, by rw [HW.out, World.drewN_drewN], by omega, by omega, g3, by go_num, rfl, Hnew.out, Q2.out⟩, rfl⟩)
          case measure => simp [intOf]; omega
      · obtain ⟨ee, hee⟩ : ∃ ee, ee = nn - s := ⟨_, rfl⟩
        have hsr : s = r := by omega
        have q9 : nn ≤ ee + s := by omega
        have q8 : ee + s ≤ nn := by omega
        have e7 : (nn : Int) - (s : Int) = (ee : Int) := by omega
        have hP : Hid (Parts L R a m b mid s ee) := Lib.hid (by
          have hm := Hm.out
          have hb := Hb.out
          have hnn := Hnn.out
          refine ⟨by omega, by omega, by omega, by omega, by omega, by omega, by omega, ?_, ?_⟩
          · intro x hx y hy
            obtain ⟨t, ht1, ht2, rfl⟩ := mem_take_at hx
            obtain ⟨u, hu1, hu2, rfl⟩ := mem_drop_at hy
            rw [← HEL.out t ht2, ← HER.out u hu2]
            have h0 : s0 < s := by have := F7.out; omega
            have h1 := Q1.out (s - 1) (by omega) (by omega)
            have h2 := hmL.out (a + t) (s - 1) (by omega) (by omega) (by omega)
            have h3 := hmR.out (pp - (s - 1)) (m + u) (by omega) (by omega) (by omega)
            omega
          · intro x hx y hy
            obtain ⟨t, ht1, ht2, rfl⟩ := mem_take_at hx
            obtain ⟨u, hu1, hu2, rfl⟩ := mem_drop_at hy
            rw [← HER.out t ht2, ← HEL.out u hu2]
            have h0 : s < r0 := by have := F8.out; omega
            have h1 := Q2.out s (by omega) h0
            have h2 := hmR.out (m + t) (pp - s) (by omega) (by omega) (by omega)
            have h3 := hmL.out s (a + u) (by omega) (by omega) (by omega)
            omega)
        clear hcell hmL hmR HEL HER F7 F8 Q1 Q2 hsr hee
        have p1 := hP.out.ga
        have p2 := hP.out.sm
        have p3 := hP.out.me
        have p4 := hP.out.eb
        have p6 := hP.out.mids
        have p7 := hP.out.mide
        obtain ⟨L1, hL1⟩ : ∃ x, Hid (L.take (s - a) = x) := ⟨_, Lib.hid rfl⟩
        obtain ⟨L2, hL2⟩ : ∃ x, Hid (L.drop (s - a) = x) := ⟨_, Lib.hid rfl⟩
        obtain ⟨R1, hR1⟩ : ∃ x, Hid (R.take (ee - m) = x) := ⟨_, Lib.hid rfl⟩
        obtain ⟨R2, hR2⟩ : ∃ x, Hid (R.drop (ee - m) = x) := ⟨_, Lib.hid rfl⟩
        have hLL : Hid (L1 ++ L2 = L) := Lib.hid (by rw [← hL1.out, ← hL2.out, List.take_append_drop])
        have hRR : Hid (R1 ++ R2 = R) := Lib.hid (by rw [← hR1.out, ← hR2.out, List.take_append_drop])
        have l1 : Hid (L1.length = s - a) := Lib.hid (by rw [← hL1.out]; have := Hm.out; simp; omega)
        have l2 : Hid (L2.length = m - s) := Lib.hid (by rw [← hL2.out]; have := Hm.out; simp; omega)
        have l3 : Hid (R1.length = ee - m) := Lib.hid (by rw [← hR1.out]; have := Hb.out; simp; omega)
        have l4 : Hid (R2.length = b - ee) := Lib.hid (by rw [← hR2.out]; have := Hb.out; simp; omega)
        have l5 : Hid (mid + m = s + ee) := Lib.hid hP.out.sum
        have HS0 : Hid (Sr wr B g cap (P ++ L1 ++ L2 ++ R1 ++ R2 ++ S)) := Lib.hid (by
          rw [HW.out]
          have := sr_drew H.out n
          rw [← hLL.out, ← hRR.out] at this
          simpa using this)
        have HB0 : Hid (Below B w wr) := Lib.hid (by rw [HW.out]; exact below_drewN (Below.refl _ _) n)
        have hW1 : Hid (W64 L1 ∧ W64 L2 ∧ W64 R1 ∧ W64 R2) := Lib.hid (by
          refine ⟨fun x hx => H64.out x ?_, fun x hx => H64.out x ?_, fun x hx => H64.out x ?_, fun x hx => H64.out x ?_⟩
          · rw [← hLL.out]; simp [hx]
          · rw [← hLL.out]; simp [hx]
          · rw [← hRR.out]; simp [hx]
          · rw [← hRR.out]; simp [hx])
        clear H HW
        have hlen' : Hid (len = P.length + L1.length + L2.length + R1.length + R2.length + S.length) := Lib.hid (by
          have h1 := HLS.out
          have h2 := congrArg List.length hLL.out
          have h3 := congrArg List.length hRR.out
          simp at h2 h3
          omega)
        have hPS : Hid (W64 P ∧ W64 S) := Lib.hid ⟨fun x hx => H64.out x (by simp [hx]), fun x hx => H64.out x (by simp [hx])⟩
        have hAll1 : Hid (W64 (P ++ L1 ++ R1 ++ (L2 ++ R2 ++ S))) := Lib.hid (by
          intro x hx
          simp only [List.mem_append] at hx
          rcases hx with ((hx | hx) | hx) | ((hx | hx) | hx)
          · exact hPS.out.1 x hx
          · exact hW1.out.1 x hx
          · exact hW1.out.2.2.1 x hx
          · exact hW1.out.2.1 x hx
          · exact hW1.out.2.2.2 x hx
          · exact hPS.out.2 x hx)
        have hr3 : r ≤ r0 := g3
        have hcs : (s = m ∧ s < mid) ∨ (s = m ∧ s = mid) ∨ (s < m ∧ s = mid) ∨ (s < m ∧ s < mid ∧ s = a ∧ ee = b) ∨ (s < m ∧ s < mid ∧ s = a ∧ ee < b) ∨ (s < m ∧ s < mid ∧ a < s ∧ ee = b) ∨ (s < m ∧ s < mid ∧ a < s ∧ ee < b) := by omega
        have hsr2 : ¬ s < r := hlt
        clear e3 e4 f1 f2 f3 f4 f5 f6 n2 n3 g1 g3 hlt
        rcases hcs with ⟨hs1, hs2⟩ | ⟨hs1, hs2⟩ | ⟨hs1, hs2⟩ | ⟨hs1, hs2, hs3, hs4⟩ | ⟨hs1, hs2, hs3, hs4⟩ | ⟨hs1, hs2, hs3, hs4⟩ | ⟨hs1, hs2, hs3, hs4⟩
        · exfalso; have := Hc3.out; omega
        · exfalso; have := Hc3.out; omega
        · have t1 : ¬ m < ee := by have := l5.out; omega
          have t2 : a < s := by have := l5.out; omega
          have t3 : mid < ee := by have := l5.out; omega
          have t4 : ¬ s < mid := by have := l5.out; omega
          have t5 : ee < b := by have := l5.out; omega
          have hss2 := Lib.hid hs2
          clear hs2
          have HS1 : Hid (Sr wr B g cap (P ++ L1 ++ R1 ++ L2 ++ R2 ++ S)) := Lib.hid (by
            have h0 := HS0.out
            have : R1 = [] := List.eq_nil_of_length_eq_zero (by have := l3.out; have := hss2.out; have := l5.out; omega)
            rw [this] at h0 ⊢
            simpa using h0)
          have HB1 := HB0
          obtain ⟨M1, hM1⟩ : ∃ x, Hid (x = L1 ++ R1) := ⟨_, Lib.hid rfl⟩
          have HM1 : Hid (M1.Perm (L1 ++ R1)) := Lib.hid (by rw [hM1.out])
          have HSm1 : Hid (Srt M1) := Lib.hid (by rw [hM1.out]; have h0 : R1 = [] := List.eq_nil_of_length_eq_zero (by have := l3.out; have := l5.out; have := hss2.out; omega); rw [h0, ← hL1.out, List.append_nil]; exact srt_take HL.out _)
          have HS2 : Hid (Sr wr B g cap (P ++ M1 ++ (L2 ++ R2 ++ S))) := Lib.hid (by rw [hM1.out]; have := HS1.out; simpa using this)
          have HB2 := HB1
          have lM1 : Hid (M1.length = mid - a) := Lib.hid (by
            have h1 := HM1.out.length_eq
            have h2 := l1.out
            have h3 := l3.out
            have h5 := l5.out
            simp at h1
            omega)
          have hAll2 : Hid (W64 (P ++ M1 ++ L2 ++ R2 ++ S)) := Lib.hid (by
            intro x hx
            simp only [List.mem_append] at hx
            rcases hx with (((hx | hx) | hx) | hx) | hx
            · exact hPS.out.1 x hx
            · rcases List.mem_append.1 (HM1.out.mem_iff.1 hx) with hx | hx
              · exact hW1.out.1 x hx
              · exact hW1.out.2.2.1 x hx
            · exact hW1.out.2.1 x hx
            · exact hW1.out.2.2.2 x hx
            · exact hPS.out.2 x hx)
          go_wp2_with fail
          refine (IH.out wr B g cap (P ++ M1) L2 R2 S mid ee b len ?_ (by have := l2.out; have := l5.out; omega) (by have := l4.out; omega) (by have := lM1.out; have := Ha.out; simp; omega) (by have := l2.out; have := l5.out; omega) (by have := l4.out; omega) (by rw [hlen'.out]; have := lM1.out; have := l1.out; have := l3.out; have := l5.out; simp; omega) h100 (by rw [← hL2.out]; exact srt_drop HL.out _) (by rw [← hR2.out]; exact srt_drop HR.out _) hAll2.out (by have := HS2.out; simpa using this)).mono ?_
          · have h1 := l2.out
            have h3 := l4.out
            have h5 := l5.out
            have h6 := HN.out
            have h7 := Hm.out
            have h8 := Hb.out
            omega
          rintro e wB ⟨rfl, M2, pm, sm, hr3, hb3⟩
          have HM2 := Lib.hid pm
          have HSm2 := Lib.hid sm
          have HR3 := Lib.hid hr3
          have HB3 := Lib.hid (HB2.out.trans hb3)
          clear pm sm hr3 hb3
          go_wp2
          first | go_end0 | refine bodyPost_ret (results_none rfl _ _ _) rfl ?_
          have hfin := parts_sorted hP.out HL.out HR.out (by rw [hL1.out, hR1.out]; exact HM1.out) (by rw [hL2.out, hR2.out]; exact HM2.out) HSm1.out HSm2.out
          exact ⟨rfl, M1 ++ M2, hfin.2, hfin.1, by have := HR3.out; simpa using this, HB3.out⟩
        · have t1 : m < ee := by have := l5.out; omega
          have t3 : mid < ee := by have := l5.out; omega
          have t2 : ¬ a < s := by have := l5.out; omega
          have hss3 := Lib.hid hs3
          clear hs3
          have t5 : ¬ ee < b := by have := l5.out; omega
          have hss4 := Lib.hid hs4
          clear hs4
          go_wp2_with fail
          refine (rotate_any wr B g cap (P ++ L1) L2 R1 (R2 ++ S) s m ee len (m - s) (ee - m) cmpF l2.out l3.out (by have := l1.out; have := Ha.out; simp; omega) (by have := l1.out; have := Ha.out; simp; omega) (by have := l1.out; have := Ha.out; simp; omega) (by omega) (by omega) (by rw [hlen'.out]; simp; omega) h100 (by have := HS0.out; simpa using this)).mono ?_
          rintro e wA ⟨rfl, hr3, hb3⟩
          have HS1 : Hid (Sr wA B g cap (P ++ L1 ++ R1 ++ L2 ++ R2 ++ S)) := Lib.hid (by simpa using hr3)
          have HB1 : Hid (Below B w wA) := Lib.hid (HB0.out.trans hb3)
          clear hr3 hb3
          obtain ⟨M1, hM1⟩ : ∃ x, Hid (x = L1 ++ R1) := ⟨_, Lib.hid rfl⟩
          have HM1 : Hid (M1.Perm (L1 ++ R1)) := Lib.hid (by rw [hM1.out])
          have HSm1 : Hid (Srt M1) := Lib.hid (by rw [hM1.out]; have h0 : L1 = [] := List.eq_nil_of_length_eq_zero (by have := l1.out; have := hss3.out; omega); rw [h0, ← hR1.out]; exact srt_take HR.out _)
          have HS2 : Hid (Sr wA B g cap (P ++ M1 ++ (L2 ++ R2 ++ S))) := Lib.hid (by rw [hM1.out]; have := HS1.out; simpa using this)
          have HB2 := HB1
          have hsm2 : Hid (Srt (L2 ++ R2)) := Lib.hid (by have h0 : R2 = [] := List.eq_nil_of_length_eq_zero (by have := l4.out; have := hss4.out; omega); rw [h0, ← hL2.out, List.append_nil]; exact srt_drop HL.out _)
          have hfin := Lib.hid (parts_sorted hP.out HL.out HR.out (by rw [hL1.out, hR1.out]; exact HM1.out) (by rw [hL2.out, hR2.out]) HSm1.out hsm2.out)
          go_wp2
          first | go_end0 | refine bodyPost_ret (results_none rfl _ _ _) rfl ?_
          exact ⟨rfl, M1 ++ (L2 ++ R2), hfin.out.2, hfin.out.1, by have := HS2.out; simpa using this, HB2.out⟩
        · have t1 : m < ee := by have := l5.out; omega
          have t3 : mid < ee := by have := l5.out; omega
          have t2 : ¬ a < s := by have := l5.out; omega
          have hss3 := Lib.hid hs3
          clear hs3
          go_wp2_with fail
          refine (rotate_any wr B g cap (P ++ L1) L2 R1 (R2 ++ S) s m ee len (m - s) (ee - m) cmpF l2.out l3.out (by have := l1.out; have := Ha.out; simp; omega) (by have := l1.out; have := Ha.out; simp; omega) (by have := l1.out; have := Ha.out; simp; omega) (by omega) (by omega) (by rw [hlen'.out]; simp; omega) h100 (by have := HS0.out; simpa using this)).mono ?_
          rintro e wA ⟨rfl, hr3, hb3⟩
          have HS1 : Hid (Sr wA B g cap (P ++ L1 ++ R1 ++ L2 ++ R2 ++ S)) := Lib.hid (by simpa using hr3)
          have HB1 : Hid (Below B w wA) := Lib.hid (HB0.out.trans hb3)
          clear hr3 hb3
          obtain ⟨M1, hM1⟩ : ∃ x, Hid (x = L1 ++ R1) := ⟨_, Lib.hid rfl⟩
          have HM1 : Hid (M1.Perm (L1 ++ R1)) := Lib.hid (by rw [hM1.out])
          have HSm1 : Hid (Srt M1) := Lib.hid (by rw [hM1.out]; have h0 : L1 = [] := List.eq_nil_of_length_eq_zero (by have := l1.out; have := hss3.out; omega); rw [h0, ← hR1.out]; exact srt_take HR.out _)
          have HS2 : Hid (Sr wA B g cap (P ++ M1 ++ (L2 ++ R2 ++ S))) := Lib.hid (by rw [hM1.out]; have := HS1.out; simpa using this)
          have HB2 := HB1
          have lM1 : Hid (M1.length = mid - a) := Lib.hid (by
            have h1 := HM1.out.length_eq
            have h2 := l1.out
            have h3 := l3.out
            have h5 := l5.out
            simp at h1
            omega)
          have hAll2 : Hid (W64 (P ++ M1 ++ L2 ++ R2 ++ S)) := Lib.hid (by
            intro x hx
            simp only [List.mem_append] at hx
            rcases hx with (((hx | hx) | hx) | hx) | hx
            · exact hPS.out.1 x hx
            · rcases List.mem_append.1 (HM1.out.mem_iff.1 hx) with hx | hx
              · exact hW1.out.1 x hx
              · exact hW1.out.2.2.1 x hx
            · exact hW1.out.2.1 x hx
            · exact hW1.out.2.2.2 x hx
            · exact hPS.out.2 x hx)
          go_wp2_with fail
          refine (IH.out wA B g cap (P ++ M1) L2 R2 S mid ee b len ?_ (by have := l2.out; have := l5.out; omega) (by have := l4.out; omega) (by have := lM1.out; have := Ha.out; simp; omega) (by have := l2.out; have := l5.out; omega) (by have := l4.out; omega) (by rw [hlen'.out]; have := lM1.out; have := l1.out; have := l3.out; have := l5.out; simp; omega) h100 (by rw [← hL2.out]; exact srt_drop HL.out _) (by rw [← hR2.out]; exact srt_drop HR.out _) hAll2.out (by have := HS2.out; simpa using this)).mono ?_
          · have h1 := l2.out
            have h3 := l4.out
            have h5 := l5.out
            have h6 := HN.out
            have h7 := Hm.out
            have h8 := Hb.out
            omega
          rintro e wC ⟨rfl, M2, pm, sm, hr3, hb3⟩
          have HM2 := Lib.hid pm
          have HSm2 := Lib.hid sm
          have HR3 := Lib.hid hr3
          have HB3 := Lib.hid (HB2.out.trans hb3)
          clear pm sm hr3 hb3
          go_wp2
          first | go_end0 | refine bodyPost_ret (results_none rfl _ _ _) rfl ?_
          have hfin := parts_sorted hP.out HL.out HR.out (by rw [hL1.out, hR1.out]; exact HM1.out) (by rw [hL2.out, hR2.out]; exact HM2.out) HSm1.out HSm2.out
          exact ⟨rfl, M1 ++ M2, hfin.2, hfin.1, by have := HR3.out; simpa using this, HB3.out⟩
        · have t1 : m < ee := by have := l5.out; omega
          have t3 : mid < ee := by have := l5.out; omega
          have t5 : ¬ ee < b := by have := l5.out; omega
          have hss4 := Lib.hid hs4
          clear hs4
          go_wp2_with fail
          refine (rotate_any wr B g cap (P ++ L1) L2 R1 (R2 ++ S) s m ee len (m - s) (ee - m) cmpF l2.out l3.out (by have := l1.out; have := Ha.out; simp; omega) (by have := l1.out; have := Ha.out; simp; omega) (by have := l1.out; have := Ha.out; simp; omega) (by omega) (by omega) (by rw [hlen'.out]; simp; omega) h100 (by have := HS0.out; simpa using this)).mono ?_
          rintro e wA ⟨rfl, hr3, hb3⟩
          have HS1 : Hid (Sr wA B g cap (P ++ L1 ++ R1 ++ L2 ++ R2 ++ S)) := Lib.hid (by simpa using hr3)
          have HB1 : Hid (Below B w wA) := Lib.hid (HB0.out.trans hb3)
          clear hr3 hb3
          go_wp2_with fail
          refine (IH.out wA B g cap P L1 R1 (L2 ++ R2 ++ S) a s mid len ?_ (by have := l1.out; omega) (by have := l3.out; have := l5.out; omega) Ha.out (by have := l1.out; omega) (by have := l3.out; have := l5.out; omega) (by rw [hlen'.out]; simp; omega) h100 (by rw [← hL1.out]; exact srt_take HL.out _) (by rw [← hR1.out]; exact srt_take HR.out _) hAll1.out (by have := HS1.out; simpa using this)).mono ?_
          · have h1 := l1.out
            have h3 := l3.out
            have h5 := l5.out
            have h6 := HN.out
            have h7 := Hm.out
            have h8 := Hb.out
            omega
          rintro e wB ⟨rfl, M1, pm, sm, hr3, hb3⟩
          have HM1 := Lib.hid pm
          have HSm1 := Lib.hid sm
          have HS2 := Lib.hid hr3
          have HB2 := Lib.hid (HB1.out.trans hb3)
          clear pm sm hr3 hb3
          have hsm2 : Hid (Srt (L2 ++ R2)) := Lib.hid (by have h0 : R2 = [] := List.eq_nil_of_length_eq_zero (by have := l4.out; have := hss4.out; omega); rw [h0, ← hL2.out, List.append_nil]; exact srt_drop HL.out _)
          have hfin := Lib.hid (parts_sorted hP.out HL.out HR.out (by rw [hL1.out, hR1.out]; exact HM1.out) (by rw [hL2.out, hR2.out]) HSm1.out hsm2.out)
          go_wp2
          first | go_end0 | refine bodyPost_ret (results_none rfl _ _ _) rfl ?_
          exact ⟨rfl, M1 ++ (L2 ++ R2), hfin.out.2, hfin.out.1, by have := HS2.out; simpa using this, HB2.out⟩
        · have t1 : m < ee := by have := l5.out; omega
          have t3 : mid < ee := by have := l5.out; omega
          go_wp2_with fail
          refine (rotate_any wr B g cap (P ++ L1) L2 R1 (R2 ++ S) s m ee len (m - s) (ee - m) cmpF l2.out l3.out (by have := l1.out; have := Ha.out; simp; omega) (by have := l1.out; have := Ha.out; simp; omega) (by have := l1.out; have := Ha.out; simp; omega) (by omega) (by omega) (by rw [hlen'.out]; simp; omega) h100 (by have := HS0.out; simpa using this)).mono ?_
          rintro e wA ⟨rfl, hr3, hb3⟩
          have HS1 : Hid (Sr wA B g cap (P ++ L1 ++ R1 ++ L2 ++ R2 ++ S)) := Lib.hid (by simpa using hr3)
          have HB1 : Hid (Below B w wA) := Lib.hid (HB0.out.trans hb3)
          clear hr3 hb3
          go_wp2_with fail
          refine (IH.out wA B g cap P L1 R1 (L2 ++ R2 ++ S) a s mid len ?_ (by have := l1.out; omega) (by have := l3.out; have := l5.out; omega) Ha.out (by have := l1.out; omega) (by have := l3.out; have := l5.out; omega) (by rw [hlen'.out]; simp; omega) h100 (by rw [← hL1.out]; exact srt_take HL.out _) (by rw [← hR1.out]; exact srt_take HR.out _) hAll1.out (by have := HS1.out; simpa using this)).mono ?_
          · have h1 := l1.out
            have h3 := l3.out
            have h5 := l5.out
            have h6 := HN.out
            have h7 := Hm.out
            have h8 := Hb.out
            omega
          rintro e wB ⟨rfl, M1, pm, sm, hr3, hb3⟩
          have HM1 := Lib.hid pm
          have HSm1 := Lib.hid sm
          have HS2 := Lib.hid hr3
          have HB2 := Lib.hid (HB1.out.trans hb3)
          clear pm sm hr3 hb3
          have lM1 : Hid (M1.length = mid - a) := Lib.hid (by
            have h1 := HM1.out.length_eq
            have h2 := l1.out
            have h3 := l3.out
            have h5 := l5.out
            simp at h1
            omega)
          have hAll2 : Hid (W64 (P ++ M1 ++ L2 ++ R2 ++ S)) := Lib.hid (by
            intro x hx
            simp only [List.mem_append] at hx
            rcases hx with (((hx | hx) | hx) | hx) | hx
            · exact hPS.out.1 x hx
            · rcases List.mem_append.1 (HM1.out.mem_iff.1 hx) with hx | hx
              · exact hW1.out.1 x hx
              · exact hW1.out.2.2.1 x hx
            · exact hW1.out.2.1 x hx
            · exact hW1.out.2.2.2 x hx
            · exact hPS.out.2 x hx)
          go_wp2_with fail
          refine (IH.out wB B g cap (P ++ M1) L2 R2 S mid ee b len ?_ (by have := l2.out; have := l5.out; omega) (by have := l4.out; omega) (by have := lM1.out; have := Ha.out; simp; omega) (by have := l2.out; have := l5.out; omega) (by have := l4.out; omega) (by rw [hlen'.out]; have := lM1.out; have := l1.out; have := l3.out; have := l5.out; simp; omega) h100 (by rw [← hL2.out]; exact srt_drop HL.out _) (by rw [← hR2.out]; exact srt_drop HR.out _) hAll2.out (by have := HS2.out; simpa using this)).mono ?_
          · have h1 := l2.out
            have h3 := l4.out
            have h5 := l5.out
            have h6 := HN.out
            have h7 := Hm.out
            have h8 := Hb.out
            omega
          rintro e wC ⟨rfl, M2, pm, sm, hr3, hb3⟩
          have HM2 := Lib.hid pm
          have HSm2 := Lib.hid sm
          have HR3 := Lib.hid hr3
          have HB3 := Lib.hid (HB2.out.trans hb3)
          clear pm sm hr3 hb3
          go_wp2
          first | go_end0 | refine bodyPost_ret (results_none rfl _ _ _) rfl ?_
          have hfin := parts_sorted hP.out HL.out HR.out (by rw [hL1.out, hR1.out]; exact HM1.out) (by rw [hL2.out, hR2.out]; exact HM2.out) HSm1.out HSm2.out
          exact ⟨rfl, M1 ++ M2, hfin.2, hfin.1, by have := HR3.out; simpa using this, HB3.out⟩
  case inr =>
    have hd0 : decide ((mid : Int) < (m : Int)) = false := by simp; omega
    have hd1 : ¬ (mid : Int) < (m : Int) := by omega
    have Hc2 := Lib.hid hc2
    have Hc3 := Lib.hid hc3
    clear hc2 hc3 hl1 hr1
    go_enter Try.func47, Try.ntmps47
    go_wp2
    clear hd0 hd1
    go_loopw [20, 21] (fun i j wr => SymRel w E s0 r0 pp i j wr) (fun i j _ => (intOf j).toNat - (intOf i).toNat)
    case atStart => exact ⟨s0, r0, 0, rfl, Nat.le_refl _, f2, Nat.le_refl _, by first | rfl | rw [Hc2.out], by first | rfl | rw [Hc3.out], by intro c h1 h2; omega, by intro c h1 h2; omega⟩
    case round =>
      obtain ⟨s, r, n, hwr, g1, g2, g3, rfl, rfl, q1, q2⟩ := hrel
      have HW := Lib.hid hwr
      have Q1 := Lib.hid q1
      have Q2 := Lib.hid q2
      clear hwr q1 q2
      by_cases hlt : s < r
      · obtain ⟨c, hc1, hc2, hc3⟩ := half_u64 (i := s) (j := r) (by omega)
        have k1 : s ≤ c := by omega
        have k2 : c < r := by omega
        obtain ⟨pc, hpc⟩ : ∃ pc, pc = pp - c := ⟨_, rfl⟩
        have e6 : (pp : Int) - (c : Int) = (pc : Int) := by omega
        have k3 : pc < len := by omega
        have k4 : c < len := by omega
        obtain ⟨c1, w1⟩ := hcell.out pc k3
        obtain ⟨c2, w2⟩ := hcell.out c k4
        rw [← World.cell?_drewN (n := n), ← HW.out] at c1 c2
        have Hlo : Hid (∀ t, s0 ≤ t → t ≤ c → code (E t) ≤ code (E c) ∧ code (E pc) ≤ code (E (pp - t))) := Lib.hid (by
          intro t h1 h2
          exact ⟨hmL.out t c (by omega) h2 (by omega), hmR.out pc (pp - t) (by omega) (by omega) (by omega)⟩)
        have Hhi : Hid (∀ t, c ≤ t → t < r0 → code (E c) ≤ code (E t) ∧ code (E (pp - t)) ≤ code (E pc)) := Lib.hid (by
          intro t h1 h2
          exact ⟨hmL.out c t (by omega) h1 (by omega), hmR.out (pp - t) pc (by omega) (by omega) (by omega)⟩)
        have Hpc := Lib.hid hpc
        clear hpc hc1
        by_cases hc : code (E pc) < code (E c)
        · have Hnew : Hid (∀ t, c ≤ t → t < r0 → code (E (pp - t)) < code (E t)) := Lib.hid (by
            intro t h1 h2
            have := Hhi.out t h1 h2
            omega)
          generalize E pc = x at *
          generalize E c = y at *
          have hcc := cmp_lt hc
          have hcb : (!decide (cmpN (code x) (code y) < 0)) = false := by simp [hcc]
          have hcd : decide (0 ≤ cmpN (code x) (code y)) = false := by simp; omega
          clear hc Hlo Hhi
          go_wp2
          go_quiet ((go_at_call 20; exact Calls.quiet_of_same (cmp_quiet _ _ w1 w2 _)))
          go_wp2
          go_roundw
          case rel => exact ⟨s, c, _, by rw [HW.out, World.drewN_drewN], g1, k1, by omega, rfl, rfl, Q1.out, Hnew.out⟩
          case measure => simp [intOf]; omega
        · have Hnew : Hid (∀ t, s0 ≤ t → t < c + 1 → ¬ code (E (pp - t)) < code (E t)) := Lib.hid (by
            intro t h1 h2
            have := Hlo.out t h1 (by omega)
            omega)
          generalize E pc = x at *
          generalize E c = y at *
          have hcc := cmp_ge hc
          have hcb : (!decide (cmpN (code x) (code y) < 0)) = true := by simp; omega
          clear hc Hlo Hhi
          go_wp2
          go_quiet ((go_at_call 20; exact Calls.quiet_of_same (cmp_quiet _ _ w1 w2 _)))
          go_wp2
          go_roundw
          case rel => first | exact ⟨c + 1, r, _, by rw [HW.out, World.drewN_drewN], by omega, by omega, g3, by go_num, rfl, Hnew.out, Q2.out⟩ | ((repeat apply Exists.intro); exact ⟨⟨c + 1, r, _, by rw [HW.out, World.drewN_drewN], by omega, by omega, g3, by go_num, rfl, Hnew.out, Q2.out⟩, rfl⟩)
          case measure => simp [intOf]; omega
      · obtain ⟨ee, hee⟩ : ∃ ee, ee = nn - s := ⟨_, rfl⟩
        have hsr : s = r := by omega
        have q9 : nn ≤ ee + s := by omega
        have q8 : ee + s ≤ nn := by omega
        have e7 : (nn : Int) - (s : Int) = (ee : Int) := by omega
        have hP : Hid (Parts L R a m b mid s ee) := Lib.hid (by
          have hm := Hm.out
          have hb := Hb.out
          have hnn := Hnn.out
          refine ⟨by omega, by omega, by omega, by omega, by omega, by omega, by omega, ?_, ?_⟩
          · intro x hx y hy
            obtain ⟨t, ht1, ht2, rfl⟩ := mem_take_at hx
            obtain ⟨u, hu1, hu2, rfl⟩ := mem_drop_at hy
            rw [← HEL.out t ht2, ← HER.out u hu2]
            have h0 : s0 < s := by have := F7.out; omega
            have h1 := Q1.out (s - 1) (by omega) (by omega)
            have h2 := hmL.out (a + t) (s - 1) (by omega) (by omega) (by omega)
            have h3 := hmR.out (pp - (s - 1)) (m + u) (by omega) (by omega) (by omega)
            omega
          · intro x hx y hy
            obtain ⟨t, ht1, ht2, rfl⟩ := mem_take_at hx
            obtain ⟨u, hu1, hu2, rfl⟩ := mem_drop_at hy
            rw [← HER.out t ht2, ← HEL.out u hu2]
            have h0 : s < r0 := by have := F8.out; omega
            have h1 := Q2.out s (by omega) h0
            have h2 := hmR.out (m + t) (pp - s) (by omega) (by omega) (by omega)
            have h3 := hmL.out s (a + u) (by omega) (by omega) (by omega)
            omega)
        clear hcell hmL hmR HEL HER F7 F8 Q1 Q2 hsr hee
        have p1 := hP.out.ga
        have p2 := hP.out.sm
        have p3 := hP.out.me
        have p4 := hP.out.eb
        have p6 := hP.out.mids
        have p7 := hP.out.mide
        obtain ⟨L1, hL1⟩ : ∃ x, Hid (L.take (s - a) = x) := ⟨_, Lib.hid rfl⟩
        obtain ⟨L2, hL2⟩ : ∃ x, Hid (L.drop (s - a) = x) := ⟨_, Lib.hid rfl⟩
        obtain ⟨R1, hR1⟩ : ∃ x, Hid (R.take (ee - m) = x) := ⟨_, Lib.hid rfl⟩
        obtain ⟨R2, hR2⟩ : ∃ x, Hid (R.drop (ee - m) = x) := ⟨_, Lib.hid rfl⟩
        have hLL : Hid (L1 ++ L2 = L) := Lib.hid (by rw [← hL1.out, ← hL2.out, List.take_append_drop])
        have hRR : Hid (R1 ++ R2 = R) := Lib.hid (by rw [← hR1.out, ← hR2.out, List.take_append_drop])
        have l1 : Hid (L1.length = s - a) := Lib.hid (by rw [← hL1.out]; have := Hm.out; simp; omega)
        have l2 : Hid (L2.length = m - s) := Lib.hid (by rw [← hL2.out]; have := Hm.out; simp; omega)
        have l3 : Hid (R1.length = ee - m) := Lib.hid (by rw [← hR1.out]; have := Hb.out; simp; omega)
        have l4 : Hid (R2.length = b - ee) := Lib.hid (by rw [← hR2.out]; have := Hb.out; simp; omega)
        have l5 : Hid (mid + m = s + ee) := Lib.hid hP.out.sum
        have HS0 : Hid (Sr wr B g cap (P ++ L1 ++ L2 ++ R1 ++ R2 ++ S)) := Lib.hid (by
          rw [HW.out]
          have := sr_drew H.out n
          rw [← hLL.out, ← hRR.out] at this
          simpa using this)
        have HB0 : Hid (Below B w wr) := Lib.hid (by rw [HW.out]; exact below_drewN (Below.refl _ _) n)
        have hW1 : Hid (W64 L1 ∧ W64 L2 ∧ W64 R1 ∧ W64 R2) := Lib.hid (by
          refine ⟨fun x hx => H64.out x ?_, fun x hx => H64.out x ?_, fun x hx => H64.out x ?_, fun x hx => H64.out x ?_⟩
          · rw [← hLL.out]; simp [hx]
          · rw [← hLL.out]; simp [hx]
          · rw [← hRR.out]; simp [hx]
          · rw [← hRR.out]; simp [hx])
        clear H HW
        have hlen' : Hid (len = P.length + L1.length + L2.length + R1.length + R2.length + S.length) := Lib.hid (by
          have h1 := HLS.out
          have h2 := congrArg List.length hLL.out
          have h3 := congrArg List.length hRR.out
          simp at h2 h3
          omega)
        have hPS : Hid (W64 P ∧ W64 S) := Lib.hid ⟨fun x hx => H64.out x (by simp [hx]), fun x hx => H64.out x (by simp [hx])⟩
        have hAll1 : Hid (W64 (P ++ L1 ++ R1 ++ (L2 ++ R2 ++ S))) := Lib.hid (by
          intro x hx
          simp only [List.mem_append] at hx
          rcases hx with ((hx | hx) | hx) | ((hx | hx) | hx)
          · exact hPS.out.1 x hx
          · exact hW1.out.1 x hx
          · exact hW1.out.2.2.1 x hx
          · exact hW1.out.2.1 x hx
          · exact hW1.out.2.2.2 x hx
          · exact hPS.out.2 x hx)
        have hr3 : r ≤ r0 := g3
        have hcs : (s = m ∧ s < mid) ∨ (s = m ∧ s = mid) ∨ (s < m ∧ s = mid) ∨ (s < m ∧ s < mid ∧ s = a ∧ ee = b) ∨ (s < m ∧ s < mid ∧ s = a ∧ ee < b) ∨ (s < m ∧ s < mid ∧ a < s ∧ ee = b) ∨ (s < m ∧ s < mid ∧ a < s ∧ ee < b) := by omega
        have hsr2 : ¬ s < r := hlt
        clear e3 e4 f1 f2 f3 f4 f5 f6 n2 n3 g1 g3 hlt
        rcases hcs with ⟨hs1, hs2⟩ | ⟨hs1, hs2⟩ | ⟨hs1, hs2⟩ | ⟨hs1, hs2, hs3, hs4⟩ | ⟨hs1, hs2, hs3, hs4⟩ | ⟨hs1, hs2, hs3, hs4⟩ | ⟨hs1, hs2, hs3, hs4⟩
        · have t1 : ¬ s < m := by have := l5.out; omega
          have t2 : a < s := by have := l5.out; omega
          have t3 : ¬ mid < ee := by have := l5.out; omega
          have hss := Lib.hid hs1
          clear hs1
          have HS1 : Hid (Sr wr B g cap (P ++ L1 ++ R1 ++ L2 ++ R2 ++ S)) := Lib.hid (by
            have h0 := HS0.out
            have : L2 = [] := List.eq_nil_of_length_eq_zero (by have := l2.out; have := hss.out; omega)
            rw [this] at h0 ⊢
            simpa using h0)
          have HB1 := HB0
          go_wp2_with fail
          refine (IH.out wr B g cap P L1 R1 (L2 ++ R2 ++ S) a s mid len ?_ (by have := l1.out; omega) (by have := l3.out; have := l5.out; omega) Ha.out (by have := l1.out; omega) (by have := l3.out; have := l5.out; omega) (by rw [hlen'.out]; simp; omega) h100 (by rw [← hL1.out]; exact srt_take HL.out _) (by rw [← hR1.out]; exact srt_take HR.out _) hAll1.out (by have := HS1.out; simpa using this)).mono ?_
          · have h1 := l1.out
            have h3 := l3.out
            have h5 := l5.out
            have h6 := HN.out
            have h7 := Hm.out
            have h8 := Hb.out
            omega
          rintro e wA ⟨rfl, M1, pm, sm, hr3, hb3⟩
          have HM1 := Lib.hid pm
          have HSm1 := Lib.hid sm
          have HS2 := Lib.hid hr3
          have HB2 := Lib.hid (HB1.out.trans hb3)
          clear pm sm hr3 hb3
          have hsm2 : Hid (Srt (L2 ++ R2)) := Lib.hid (by have h0 : L2 = [] := List.eq_nil_of_length_eq_zero (by have := l2.out; have := l5.out; have := hss.out; omega); rw [h0, ← hR2.out]; exact srt_drop HR.out _)
          have hfin := Lib.hid (parts_sorted hP.out HL.out HR.out (by rw [hL1.out, hR1.out]; exact HM1.out) (by rw [hL2.out, hR2.out]) HSm1.out hsm2.out)
          go_wp2
          first | go_end0 | refine bodyPost_ret (results_none rfl _ _ _) rfl ?_
          exact ⟨rfl, M1 ++ (L2 ++ R2), hfin.out.2, hfin.out.1, by have := HS2.out; simpa using this, HB2.out⟩
        · have t1 : ¬ s < m := by have := l5.out; omega
          have t2 : a < s := by have := l5.out; omega
          have t3 : ¬ mid < ee := by have := l5.out; omega
          have t4 : ¬ s < mid := by have := l5.out; omega
          have hss := Lib.hid hs1
          have hss2 := Lib.hid hs2
          clear hs1 hs2
          have HS1 : Hid (Sr wr B g cap (P ++ L1 ++ R1 ++ L2 ++ R2 ++ S)) := Lib.hid (by
            have h0 := HS0.out
            have : L2 = [] := List.eq_nil_of_length_eq_zero (by have := l2.out; have := hss.out; omega)
            rw [this] at h0 ⊢
            simpa using h0)
          have HB1 := HB0
          obtain ⟨M1, hM1⟩ : ∃ x, Hid (x = L1 ++ R1) := ⟨_, Lib.hid rfl⟩
          have HM1 : Hid (M1.Perm (L1 ++ R1)) := Lib.hid (by rw [hM1.out])
          have HSm1 : Hid (Srt M1) := Lib.hid (by rw [hM1.out]; have h0 : R1 = [] := List.eq_nil_of_length_eq_zero (by have := l3.out; have := l5.out; have := hss2.out; omega); rw [h0, ← hL1.out, List.append_nil]; exact srt_take HL.out _)
          have HS2 : Hid (Sr wr B g cap (P ++ M1 ++ (L2 ++ R2 ++ S))) := Lib.hid (by rw [hM1.out]; have := HS1.out; simpa using this)
          have HB2 := HB1
          have hsm2 : Hid (Srt (L2 ++ R2)) := Lib.hid (by have h0 : L2 = [] := List.eq_nil_of_length_eq_zero (by have := l2.out; have := l5.out; have := hss.out; omega); rw [h0, ← hR2.out]; exact srt_drop HR.out _)
          have hfin := Lib.hid (parts_sorted hP.out HL.out HR.out (by rw [hL1.out, hR1.out]; exact HM1.out) (by rw [hL2.out, hR2.out]) HSm1.out hsm2.out)
          go_wp2
          first | go_end0 | refine bodyPost_ret (results_none rfl _ _ _) rfl ?_
          exact ⟨rfl, M1 ++ (L2 ++ R2), hfin.out.2, hfin.out.1, by have := HS2.out; simpa using this, HB2.out⟩
        · exfalso; have := Hc3.out; omega
        · have t1 : m < ee := by have := l5.out; omega
          have t3 : mid < ee := by have := l5.out; omega
          have t2 : ¬ a < s := by have := l5.out; omega
          have hss3 := Lib.hid hs3
          clear hs3
          have t5 : ¬ ee < b := by have := l5.out; omega
          have hss4 := Lib.hid hs4
          clear hs4
          go_wp2_with fail
          refine (rotate_any wr B g cap (P ++ L1) L2 R1 (R2 ++ S) s m ee len (m - s) (ee - m) cmpF l2.out l3.out (by have := l1.out; have := Ha.out; simp; omega) (by have := l1.out; have := Ha.out; simp; omega) (by have := l1.out; have := Ha.out; simp; omega) (by omega) (by omega) (by rw [hlen'.out]; simp; omega) h100 (by have := HS0.out; simpa using this)).mono ?_
          rintro e wA ⟨rfl, hr3, hb3⟩
          have HS1 : Hid (Sr wA B g cap (P ++ L1 ++ R1 ++ L2 ++ R2 ++ S)) := Lib.hid (by simpa using hr3)
          have HB1 : Hid (Below B w wA) := Lib.hid (HB0.out.trans hb3)
          clear hr3 hb3
          obtain ⟨M1, hM1⟩ : ∃ x, Hid (x = L1 ++ R1) := ⟨_, Lib.hid rfl⟩
          have HM1 : Hid (M1.Perm (L1 ++ R1)) := Lib.hid (by rw [hM1.out])
          have HSm1 : Hid (Srt M1) := Lib.hid (by rw [hM1.out]; have h0 : L1 = [] := List.eq_nil_of_length_eq_zero (by have := l1.out; have := hss3.out; omega); rw [h0, ← hR1.out]; exact srt_take HR.out _)
          have HS2 : Hid (Sr wA B g cap (P ++ M1 ++ (L2 ++ R2 ++ S))) := Lib.hid (by rw [hM1.out]; have := HS1.out; simpa using this)
          have HB2 := HB1
          have hsm2 : Hid (Srt (L2 ++ R2)) := Lib.hid (by have h0 : R2 = [] := List.eq_nil_of_length_eq_zero (by have := l4.out; have := hss4.out; omega); rw [h0, ← hL2.out, List.append_nil]; exact srt_drop HL.out _)
          have hfin := Lib.hid (parts_sorted hP.out HL.out HR.out (by rw [hL1.out, hR1.out]; exact HM1.out) (by rw [hL2.out, hR2.out]) HSm1.out hsm2.out)
          go_wp2
          first | go_end0 | refine bodyPost_ret (results_none rfl _ _ _) rfl ?_
          exact ⟨rfl, M1 ++ (L2 ++ R2), hfin.out.2, hfin.out.1, by have := HS2.out; simpa using this, HB2.out⟩
        · have t1 : m < ee := by have := l5.out; omega
          have t3 : mid < ee := by have := l5.out; omega
          have t2 : ¬ a < s := by have := l5.out; omega
          have hss3 := Lib.hid hs3
          clear hs3
          go_wp2_with fail
          refine (rotate_any wr B g cap (P ++ L1) L2 R1 (R2 ++ S) s m ee len (m - s) (ee - m) cmpF l2.out l3.out (by have := l1.out; have := Ha.out; simp; omega) (by have := l1.out; have := Ha.out; simp; omega) (by have := l1.out; have := Ha.out; simp; omega) (by omega) (by omega) (by rw [hlen'.out]; simp; omega) h100 (by have := HS0.out; simpa using this)).mono ?_
          rintro e wA ⟨rfl, hr3, hb3⟩
          have HS1 : Hid (Sr wA B g cap (P ++ L1 ++ R1 ++ L2 ++ R2 ++ S)) := Lib.hid (by simpa using hr3)
          have HB1 : Hid (Below B w wA) := Lib.hid (HB0.out.trans hb3)
          clear hr3 hb3
          obtain ⟨M1, hM1⟩ : ∃ x, Hid (x = L1 ++ R1) := ⟨_, Lib.hid rfl⟩
          have HM1 : Hid (M1.Perm (L1 ++ R1)) := Lib.hid (by rw [hM1.out])
          have HSm1 : Hid (Srt M1) := Lib.hid (by rw [hM1.out]; have h0 : L1 = [] := List.eq_nil_of_length_eq_zero (by have := l1.out; have := hss3.out; omega); rw [h0, ← hR1.out]; exact srt_take HR.out _)
          have HS2 : Hid (Sr wA B g cap (P ++ M1 ++ (L2 ++ R2 ++ S))) := Lib.hid (by rw [hM1.out]; have := HS1.out; simpa using this)
          have HB2 := HB1
          have lM1 : Hid (M1.length = mid - a) := Lib.hid (by
            have h1 := HM1.out.length_eq
            have h2 := l1.out
            have h3 := l3.out
            have h5 := l5.out
            simp at h1
            omega)
          have hAll2 : Hid (W64 (P ++ M1 ++ L2 ++ R2 ++ S)) := Lib.hid (by
            intro x hx
            simp only [List.mem_append] at hx
            rcases hx with (((hx | hx) | hx) | hx) | hx
            · exact hPS.out.1 x hx
            · rcases List.mem_append.1 (HM1.out.mem_iff.1 hx) with hx | hx
              · exact hW1.out.1 x hx
              · exact hW1.out.2.2.1 x hx
            · exact hW1.out.2.1 x hx
            · exact hW1.out.2.2.2 x hx
            · exact hPS.out.2 x hx)
          go_wp2_with fail
          refine (IH.out wA B g cap (P ++ M1) L2 R2 S mid ee b len ?_ (by have := l2.out; have := l5.out; omega) (by have := l4.out; omega) (by have := lM1.out; have := Ha.out; simp; omega) (by have := l2.out; have := l5.out; omega) (by have := l4.out; omega) (by rw [hlen'.out]; have := lM1.out; have := l1.out; have := l3.out; have := l5.out; simp; omega) h100 (by rw [← hL2.out]; exact srt_drop HL.out _) (by rw [← hR2.out]; exact srt_drop HR.out _) hAll2.out (by have := HS2.out; simpa using this)).mono ?_
          · have h1 := l2.out
            have h3 := l4.out
            have h5 := l5.out
            have h6 := HN.out
            have h7 := Hm.out
            have h8 := Hb.out
            omega
          rintro e wC ⟨rfl, M2, pm, sm, hr3, hb3⟩
          have HM2 := Lib.hid pm
          have HSm2 := Lib.hid sm
          have HR3 := Lib.hid hr3
          have HB3 := Lib.hid (HB2.out.trans hb3)
          clear pm sm hr3 hb3
          go_wp2
          first | go_end0 | refine bodyPost_ret (results_none rfl _ _ _) rfl ?_
          have hfin := parts_sorted hP.out HL.out HR.out (by rw [hL1.out, hR1.out]; exact HM1.out) (by rw [hL2.out, hR2.out]; exact HM2.out) HSm1.out HSm2.out
          exact ⟨rfl, M1 ++ M2, hfin.2, hfin.1, by have := HR3.out; simpa using this, HB3.out⟩
        · have t1 : m < ee := by have := l5.out; omega
          have t3 : mid < ee := by have := l5.out; omega
          have t5 : ¬ ee < b := by have := l5.out; omega
          have hss4 := Lib.hid hs4
          clear hs4
          go_wp2_with fail
          refine (rotate_any wr B g cap (P ++ L1) L2 R1 (R2 ++ S) s m ee len (m - s) (ee - m) cmpF l2.out l3.out (by have := l1.out; have := Ha.out; simp; omega) (by have := l1.out; have := Ha.out; simp; omega) (by have := l1.out; have := Ha.out; simp; omega) (by omega) (by omega) (by rw [hlen'.out]; simp; omega) h100 (by have := HS0.out; simpa using this)).mono ?_
          rintro e wA ⟨rfl, hr3, hb3⟩
          have HS1 : Hid (Sr wA B g cap (P ++ L1 ++ R1 ++ L2 ++ R2 ++ S)) := Lib.hid (by simpa using hr3)
          have HB1 : Hid (Below B w wA) := Lib.hid (HB0.out.trans hb3)
          clear hr3 hb3
          go_wp2_with fail
          refine (IH.out wA B g cap P L1 R1 (L2 ++ R2 ++ S) a s mid len ?_ (by have := l1.out; omega) (by have := l3.out; have := l5.out; omega) Ha.out (by have := l1.out; omega) (by have := l3.out; have := l5.out; omega) (by rw [hlen'.out]; simp; omega) h100 (by rw [← hL1.out]; exact srt_take HL.out _) (by rw [← hR1.out]; exact srt_take HR.out _) hAll1.out (by have := HS1.out; simpa using this)).mono ?_
          · have h1 := l1.out
            have h3 := l3.out
            have h5 := l5.out
            have h6 := HN.out
            have h7 := Hm.out
            have h8 := Hb.out
            omega
          rintro e wB ⟨rfl, M1, pm, sm, hr3, hb3⟩
          have HM1 := Lib.hid pm
          have HSm1 := Lib.hid sm
          have HS2 := Lib.hid hr3
          have HB2 := Lib.hid (HB1.out.trans hb3)
          clear pm sm hr3 hb3
          have hsm2 : Hid (Srt (L2 ++ R2)) := Lib.hid (by have h0 : R2 = [] := List.eq_nil_of_length_eq_zero (by have := l4.out; have := hss4.out; omega); rw [h0, ← hL2.out, List.append_nil]; exact srt_drop HL.out _)
          have hfin := Lib.hid (parts_sorted hP.out HL.out HR.out (by rw [hL1.out, hR1.out]; exact HM1.out) (by rw [hL2.out, hR2.out]) HSm1.out hsm2.out)
          go_wp2
          first | go_end0 | refine bodyPost_ret (results_none rfl _ _ _) rfl ?_
          exact ⟨rfl, M1 ++ (L2 ++ R2), hfin.out.2, hfin.out.1, by have := HS2.out; simpa using this, HB2.out⟩
        · have t1 : m < ee := by have := l5.out; omega
          have t3 : mid < ee := by have := l5.out; omega
          go_wp2_with fail
          refine (rotate_any wr B g cap (P ++ L1) L2 R1 (R2 ++ S) s m ee len (m - s) (ee - m) cmpF l2.out l3.out (by have := l1.out; have := Ha.out; simp; omega) (by have := l1.out; have := Ha.out; simp; omega) (by have := l1.out; have := Ha.out; simp; omega) (by omega) (by omega) (by rw [hlen'.out]; simp; omega) h100 (by have := HS0.out; simpa using this)).mono ?_
          rintro e wA ⟨rfl, hr3, hb3⟩
          have HS1 : Hid (Sr wA B g cap (P ++ L1 ++ R1 ++ L2 ++ R2 ++ S)) := Lib.hid (by simpa using hr3)
          have HB1 : Hid (Below B w wA) := Lib.hid (HB0.out.trans hb3)
          clear hr3 hb3
          go_wp2_with fail
          refine (IH.out wA B g cap P L1 R1 (L2 ++ R2 ++ S) a s mid len ?_ (by have := l1.out; omega) (by have := l3.out; have := l5.out; omega) Ha.out (by have := l1.out; omega) (by have := l3.out; have := l5.out; omega) (by rw [hlen'.out]; simp; omega) h100 (by rw [← hL1.out]; exact srt_take HL.out _) (by rw [← hR1.out]; exact srt_take HR.out _) hAll1.out (by have := HS1.out; simpa using this)).mono ?_
          · have h1 := l1.out
            have h3 := l3.out
            have h5 := l5.out
            have h6 := HN.out
            have h7 := Hm.out
            have h8 := Hb.out
            omega
          rintro e wB ⟨rfl, M1, pm, sm, hr3, hb3⟩
          have HM1 := Lib.hid pm
          have HSm1 := Lib.hid sm
          have HS2 := Lib.hid hr3
          have HB2 := Lib.hid (HB1.out.trans hb3)
          clear pm sm hr3 hb3
          have lM1 : Hid (M1.length = mid - a) := Lib.hid (by
            have h1 := HM1.out.length_eq
            have h2 := l1.out
            have h3 := l3.out
            have h5 := l5.out
            simp at h1
            omega)
          have hAll2 : Hid (W64 (P ++ M1 ++ L2 ++ R2 ++ S)) := Lib.hid (by
            intro x hx
            simp only [List.mem_append] at hx
            rcases hx with (((hx | hx) | hx) | hx) | hx
            · exact hPS.out.1 x hx
            · rcases List.mem_append.1 (HM1.out.mem_iff.1 hx) with hx | hx
              · exact hW1.out.1 x hx
              · exact hW1.out.2.2.1 x hx
            · exact hW1.out.2.1 x hx
            · exact hW1.out.2.2.2 x hx
            · exact hPS.out.2 x hx)
          go_wp2_with fail
          refine (IH.out wB B g cap (P ++ M1) L2 R2 S mid ee b len ?_ (by have := l2.out; have := l5.out; omega) (by have := l4.out; omega) (by have := lM1.out; have := Ha.out; simp; omega) (by have := l2.out; have := l5.out; omega) (by have := l4.out; omega) (by rw [hlen'.out]; have := lM1.out; have := l1.out; have := l3.out; have := l5.out; simp; omega) h100 (by rw [← hL2.out]; exact srt_drop HL.out _) (by rw [← hR2.out]; exact srt_drop HR.out _) hAll2.out (by have := HS2.out; simpa using this)).mono ?_
          · have h1 := l2.out
            have h3 := l4.out
            have h5 := l5.out
            have h6 := HN.out
            have h7 := Hm.out
            have h8 := Hb.out
            omega
          rintro e wC ⟨rfl, M2, pm, sm, hr3, hb3⟩
          have HM2 := Lib.hid pm
          have HSm2 := Lib.hid sm
          have HR3 := Lib.hid hr3
          have HB3 := Lib.hid (HB2.out.trans hb3)
          clear pm sm hr3 hb3
          go_wp2
          first | go_end0 | refine bodyPost_ret (results_none rfl _ _ _) rfl ?_
          have hfin := parts_sorted hP.out HL.out HR.out (by rw [hL1.out, hR1.out]; exact HM1.out) (by rw [hL2.out, hR2.out]; exact HM2.out) HSm1.out HSm2.out
          exact ⟨rfl, M1 ++ M2, hfin.2, hfin.1, by have := HR3.out; simpa using this, HB3.out⟩

end Go.Proofs.Ytohkjjmknpbdaaa
