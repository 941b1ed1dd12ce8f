/- The stable sort (package slices) over a row of floats that the call owns, by num.Cmp: the row comes to stand in order. -/
import Derived.Test.YtohkjjmknpbdaaaMergeC
namespace Go.Proofs.Ytohkjjmknpbdaaa
open Go.RowKit Fl

/-- runs in order, each of k, the last of at most k -/
inductive Runs (k : Nat) : List Nat → Prop
  | last (T : List Nat) (h : Srt T) (hl : T.length ≤ k) : Runs k T
  | more (X R : List Nat) (h : Srt X) (hl : X.length = k) (hr : Runs k R) : Runs k (X ++ R)

/-- what may stand ahead of runs -/
def Pre (k : Nat) (Z : List Nat) : Prop := ∀ R, Runs k R → Runs k (Z ++ R)

theorem pre_nil (k : Nat) : Pre k [] := fun _ h => h
theorem pre_snoc {k : Nat} {Z X : List Nat} (h : Pre k Z) (hX : Srt X) (hl : X.length = k) : Pre k (Z ++ X) := by
  intro R hR
  rw [List.append_assoc]
  exact h _ (.more X R hX hl hR)

theorem runs_sorted {k : Nat} {D : List Nat} (h : Runs k D) (hl : D.length ≤ k) : Srt D := by
  cases h with
  | last T h _ => exact h
  | more X R h hx hr =>
    have : R = [] := List.eq_nil_of_length_eq_zero (by simp at hl; omega)
    rw [this, List.append_nil]; exact h

/-- two runs and the rest -/
theorem runs_two {k : Nat} {R : List Nat} (hk : 0 < k) (h : Runs k R) (hl : 2 * k ≤ R.length) : ∃ X Y T, R = X ++ Y ++ T ∧ X.length = k ∧ Y.length = k ∧ Srt X ∧ Srt Y ∧ Runs k T := by
  cases h with
  | last T h h2 => omega
  | more X R1 h hx hr =>
    have hl1 : k ≤ R1.length := by simp at hl; omega
    cases hr with
    | last T h3 h4 => exact ⟨X, R1, [], by simp, hx, by omega, h, h3, .last [] List.Pairwise.nil (by simp)⟩
    | more Y T h3 hy h4 => exact ⟨X, Y, T, by simp, hx, hy, h, h3, h4⟩

/-- one run and the last -/
theorem runs_one {k : Nat} {R : List Nat} (h : Runs k R) (h1 : k < R.length) (h2 : R.length < 2 * k) : ∃ X T, R = X ++ T ∧ X.length = k ∧ 0 < T.length ∧ Srt X ∧ Srt T := by
  cases h with
  | last T h h3 => omega
  | more X R1 h hx hr =>
    have hl1 : R1.length ≤ k := by simp at h2; omega
    exact ⟨X, R1, rfl, hx, by simp at h1; omega, h, runs_sorted hr hl1⟩

theorem w64_perm {A C : List Nat} (h : A.Perm C) (hC : W64 C) : W64 A := fun x hx => hC x (h.mem_iff.1 hx)

def StRel1 (w : World) (B g cap : Nat) (D : List Nat) (sa sb : Value) (wr : World) : Prop :=
  ∃ (a b : Nat) (Z R : List Nat), b = a + 20 ∧ Z.length = a ∧ a ≤ D.length ∧ sa = .int .i64 a ∧ sb = .int .i64 b ∧ Pre 20 Z ∧ (Z ++ R).Perm D ∧ Sr wr B g cap (Z ++ R) ∧ Below B w wr

def StRel2 (w : World) (B g cap : Nat) (D : List Nat) (sk : Value) (wr : World) : Prop :=
  ∃ (k : Nat) (E : List Nat), 20 ≤ k ∧ k ≤ 2000 ∧ sk = .int .i64 k ∧ Runs k E ∧ E.Perm D ∧ Sr wr B g cap E ∧ Below B w wr

def StRel3 (w : World) (B g cap : Nat) (D : List Nat) (k b0 : Nat) (sa sb : Value) (wr : World) : Prop :=
  ∃ (a b : Nat) (Z R : List Nat), b = a + b0 ∧ Z.length = a ∧ a ≤ D.length ∧ sa = .int .i64 a ∧ sb = .int .i64 b ∧ Pre b0 Z ∧ Runs k R ∧ (Z ++ R).Perm D ∧ Sr wr B g cap (Z ++ R) ∧ Below B w wr

def StEnd (w : World) (B g cap : Nat) (D : List Nat) (e : Ending) (w' : World) : Prop :=
  e = .returned (.tuple #[]) ∧ ∃ M : List Nat, M.Perm D ∧ Srt M ∧ Sr w' B g cap M ∧ Below B w w'

set_option maxRecDepth 100000 in
set_option maxHeartbeats 6400000 in
theorem stable_any (w : World) (B g cap : Nat) (D : List Nat) (n : Nat) (hn : n = D.length) (h100 : n ≤ 900) (h64 : W64 D) (h : Sr w B g cap D) :
    Calls Try.prog 45 #[.slice (some ⟨g, 0, none⟩) n cap, .int .i64 n, cmpF] w (StEnd w B g cap D) := by
  have H := Lib.hid h
  have Hn := Lib.hid hn
  have H64 := Lib.hid h64
  clear h hn h64
  go_enter Try.func45, Try.ntmps45
  go_wp2
  go_loopw [7, 8] (fun sa sb wr => StRel1 w B g cap D sa sb wr) (fun sa _ _ => n - (intOf sa).toNat)
  case atStart => exact ⟨0, 20, [], D, rfl, rfl, Nat.zero_le _, rfl, rfl, pre_nil 20, by simp, by simpa using H.out, Below.refl _ _⟩
  case round =>
    obtain ⟨a, b, Z, R, hb, hZ, ha, rfl, rfl, hpre, hperm, hr, hbel⟩ := hrel
    have HZ := Lib.hid hZ
    have HPre := Lib.hid hpre
    have HP := Lib.hid hperm
    have HR := Lib.hid hr
    have HB := Lib.hid hbel
    have Hb := Lib.hid hb
    have hlen : Hid (n = Z.length + R.length) := Lib.hid (by rw [Hn.out, ← HP.out.length_eq]; simp)
    have i1 : a ≤ n := by rw [Hn.out]; exact ha
    have i2 : b ≤ a + 20 := by omega
    have i3 : a < b := by omega
    clear hZ hpre hperm hr hbel hb ha
    by_cases hlt : b ≤ n
    · have hXl : Hid ((R.take 20).length = 20) := Lib.hid (by have := hlen.out; have := HZ.out; have := Hb.out; simp; omega)
      go_wp2_with fail
      refine (insert_any wr B g cap Z (R.take 20) (R.drop 20) a b n HZ.out.symm (by have := hXl.out; have := HZ.out; have := Hb.out; omega) (by rw [hlen.out]; simp; try omega) (by omega) (w64_perm (by rw [List.append_assoc, List.take_append_drop]; exact HP.out) H64.out) (by rw [List.append_assoc, List.take_append_drop]; exact HR.out)).mono ?_
      rintro e w1 ⟨rfl, X, px, sx, hr3, hb3⟩
      have HX := Lib.hid px
      have HSx := Lib.hid sx
      have HR3 := Lib.hid hr3
      have HB3 := Lib.hid (HB.out.trans hb3)
      clear px sx hr3 hb3
      go_wp2
      go_roundw
      case rel =>
        have hxl2 : X.length = 20 := by rw [HX.out.length_eq, hXl.out]
        refine ⟨b, b + 20, Z ++ X, R.drop 20, rfl, by have := HZ.out; have := Hb.out; simp; omega, by rw [← Hn.out]; exact hlt, rfl, by go_num, pre_snoc HPre.out HSx.out hxl2, ?_, HR3.out, HB3.out⟩
        have e : Z ++ X ++ R.drop 20 = Z ++ (X ++ R.drop 20) := List.append_assoc _ _ _
        rw [e]
        refine (List.Perm.append_left Z ((List.Perm.append_right (R.drop 20) HX.out).trans ?_)).trans HP.out
        rw [List.take_append_drop]
      case measure => simp [intOf]; omega
    · go_wp2_with fail
      refine (insert_any wr B g cap Z R [] a n n HZ.out.symm (by rw [hlen.out]) (by rw [hlen.out]; simp) (by omega) (w64_perm (by rw [List.append_nil]; exact HP.out) H64.out) (by rw [List.append_nil]; exact HR.out)).mono ?_
      rintro e w1 ⟨rfl, X, px, sx, hr3, hb3⟩
      have HX := Lib.hid px
      have hE : Hid (Runs 20 (Z ++ X)) := Lib.hid (HPre.out X (.last X sx (by rw [px.length_eq]; have := hlen.out; have := HZ.out; have := Hb.out; omega)))
      have hEp : Hid ((Z ++ X).Perm D) := Lib.hid ((List.Perm.append_left Z px).trans HP.out)
      have HR3 : Hid (Sr w1 B g cap (Z ++ X)) := Lib.hid (by simpa using hr3)
      have HB3 := Lib.hid (HB.out.trans hb3)
      clear px sx hr3 hb3 HR HB HP HPre
      generalize Z ++ X = E at *
      go_wp2
      go_loopw [6, 7, 8, 9] (fun sk _ _ _ wr => StRel2 w B g cap D sk wr) (fun sk _ _ _ _ => n - (intOf sk).toNat)
      case atStart => exact ⟨20, E, Nat.le_refl _, by omega, rfl, hE.out, hEp.out, HR3.out, HB3.out⟩
      case round =>
        clear hE hEp HR3 HB3
        obtain ⟨k, E, hk1, hk2, rfl, hE, hEp, hr, hbel⟩ := hrel
        have HE := Lib.hid hE
        have HP := Lib.hid hEp
        have HR := Lib.hid hr
        have HB := Lib.hid hbel
        clear hE hEp hr hbel
        by_cases hlt2 : k < n
        · obtain ⟨b0, hb0⟩ : ∃ b0, b0 = 2 * k := ⟨_, rfl⟩
          have e1 : 2 * (k : Int) = (b0 : Int) := by omega
          have e2 : (k : Int) * 2 = (b0 : Int) := by omega
          have i4 : b0 ≤ 1800 := by omega
          have i5 : k < b0 := by omega
          have Hb0 := Lib.hid hb0
          clear hb0
          obtain ⟨wo, hwo⟩ : ∃ wo : World, wo = wr := ⟨_, rfl⟩
          subst hwo
          go_wp2
          go_loopw [7, 8] (fun sa sb wr => StRel3 w B g cap D k b0 sa sb wr) (fun sa _ _ => n - (intOf sa).toNat)
          case atStart => exact ⟨0, b0, [], E, by omega, rfl, Nat.zero_le _, rfl, rfl, pre_nil _, HE.out, by simpa using HP.out, by simpa using HR.out, HB.out⟩
          case round =>
            clear HE HP HR HB
            obtain ⟨a, b, Z, R, hb, hZ, ha, rfl, rfl, hpre, hruns, hperm, hr, hbel⟩ := hrel
            have HZ := Lib.hid hZ
            have HPre := Lib.hid hpre
            have HRu := Lib.hid hruns
            have HP := Lib.hid hperm
            have HR := Lib.hid hr
            have HB := Lib.hid hbel
            have Hb := Lib.hid hb
            have hlen : Hid (n = Z.length + R.length) := Lib.hid (by rw [Hn.out, ← HP.out.length_eq]; simp)
            have i1 : a ≤ n := by rw [Hn.out]; exact ha
            have i2 : b ≤ a + b0 := by omega
            have i3 : a < b := by omega
            obtain ⟨mm, hmm⟩ : ∃ mm, mm = a + k := ⟨_, rfl⟩
            have e3 : (a : Int) + (k : Int) = (mm : Int) := by omega
            have i6 : mm ≤ a + k := by omega
            have Hmm := Lib.hid hmm
            clear hZ hpre hruns hperm hr hbel hb ha hmm
            by_cases hlt3 : b ≤ n
            · obtain ⟨X, Y, T, hR, hX, hY, sX, sY, hT⟩ := runs_two (k := k) (by omega) HRu.out (by have := hlen.out; have := HZ.out; have := Hb.out; have := Hb0.out; omega)
              have HRe := Lib.hid hR
              have HXl := Lib.hid hX
              have HYl := Lib.hid hY
              have HT := Lib.hid hT
              have HsX := Lib.hid sX
              have HsY := Lib.hid sY
              clear hR hX hY sX sY hT
              go_wp2_with fail
              refine (merge_any _ wr B g cap Z X Y T a mm b n (Nat.le_refl _) (by have := HXl.out; omega) (by have := HYl.out; omega) HZ.out.symm (by have := HXl.out; have := Hmm.out; omega) (by have := HYl.out; have := Hmm.out; have := Hb.out; have := Hb0.out; omega) (by rw [hlen.out, HRe.out]; simp; try omega) (by omega) HsX.out HsY.out (w64_perm (by have := HP.out; rw [HRe.out] at this; simpa using this) H64.out) (by have := HR.out; rw [HRe.out] at this; simpa using this)).mono ?_
              rintro e w1 ⟨rfl, M, pm, sm, hr3, hb3⟩
              have HM := Lib.hid pm
              have HSm := Lib.hid sm
              have HR3 := Lib.hid hr3
              have HB3 := Lib.hid (HB.out.trans hb3)
              clear pm sm hr3 hb3
              go_wp2
              go_roundw
              case rel =>
                have hml : M.length = b0 := by rw [HM.out.length_eq]; have := HXl.out; have := HYl.out; have := Hb0.out; simp; omega
                refine ⟨b, b + b0, Z ++ M, T, rfl, by have := HZ.out; have := Hb.out; simp; omega, by rw [← Hn.out]; exact hlt3, rfl, by go_num, pre_snoc HPre.out HSm.out hml, HT.out, ?_, HR3.out, HB3.out⟩
                rw [List.append_assoc]
                refine (List.Perm.append_left Z (List.Perm.append_right T HM.out)).trans ?_
                have := HP.out
                rw [HRe.out] at this
                simpa using this
              case measure => simp [intOf]; omega
            · have hRl : Hid (R.length < 2 * k) := Lib.hid (by have := hlen.out; have := HZ.out; have := Hb.out; have := Hb0.out; omega)
              by_cases hm : mm < n
              · obtain ⟨X, T, hR, hX, hT0, sX, sT⟩ := runs_one HRu.out (by have := hlen.out; have := HZ.out; have := Hmm.out; omega) hRl.out
                have HRe := Lib.hid hR
                have HXl := Lib.hid hX
                have HsX := Lib.hid sX
                have HsT := Lib.hid sT
                have HT0 := Lib.hid hT0
                clear hR hX sX sT hT0
                go_wp2_with fail
                refine (merge_any _ wr B g cap Z X T [] a mm n n (Nat.le_refl _) (by have := HXl.out; omega) HT0.out HZ.out.symm (by have := HXl.out; have := Hmm.out; omega) (by have h1 := hlen.out; have h2 := congrArg List.length HRe.out; simp at h2; have := HXl.out; have := Hmm.out; have := HZ.out; omega) (by rw [hlen.out, HRe.out]; simp; try omega) (by omega) HsX.out HsT.out (w64_perm (by have := HP.out; rw [HRe.out] at this; simpa using this) H64.out) (by have := HR.out; rw [HRe.out] at this; simpa using this)).mono ?_
                rintro e w1 ⟨rfl, M, pm, sm, hr3, hb3⟩
                have hE2 : Hid (Runs b0 (Z ++ M)) := Lib.hid (HPre.out M (.last M sm (by rw [pm.length_eq, ← HRe.out]; have := hRl.out; have := Hb0.out; omega)))
                have hEp2 : Hid ((Z ++ M).Perm D) := Lib.hid ((List.Perm.append_left Z pm).trans (by rw [← HRe.out]; exact HP.out))
                have HR3 : Hid (Sr w1 B g cap (Z ++ M)) := Lib.hid (by simpa using hr3)
                have HB3 := Lib.hid (HB.out.trans hb3)
                clear pm sm hr3 hb3
                go_wp2
                go_roundw
                case rel => exact ⟨b0, Z ++ M, by omega, by omega, rfl, hE2.out, hEp2.out, HR3.out, HB3.out⟩
                case measure => simp [intOf]; omega
              · have hE2 : Hid (Runs b0 (Z ++ R)) := Lib.hid (HPre.out R (.last R (runs_sorted HRu.out (by have := hlen.out; have := HZ.out; have := Hmm.out; omega)) (by have := hRl.out; have := Hb0.out; omega)))
                go_wp2
                go_roundw
                case rel => exact ⟨b0, Z ++ R, by omega, by omega, rfl, hE2.out, HP.out, HR.out, HB.out⟩
                case measure => simp [intOf]; omega
        · have hs : Hid (Srt E) := Lib.hid (runs_sorted HE.out (by rw [HP.out.length_eq, ← Hn.out]; omega))
          go_wp2
          first | go_end0 | refine bodyPost_ret (results_none rfl _ _ _) rfl ?_
          exact ⟨rfl, E, HP.out, hs.out, HR.out, HB.out⟩

end Go.Proofs.Ytohkjjmknpbdaaa
