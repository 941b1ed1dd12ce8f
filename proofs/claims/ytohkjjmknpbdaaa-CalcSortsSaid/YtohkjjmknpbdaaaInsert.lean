/- insertionSort (package slices) over a row of floats that the call owns, by num.Cmp: the run that it is handed comes to stand in order; nothing else turns. -/
import Derived.Test.YtohkjjmknpbdaaaSwap
import Derived.Deep.QuietTactic
import Derived.BigQuiet
import Derived.Lib.Hide
namespace Go.Proofs.Ytohkjjmknpbdaaa
open Go.RowKit Fl

/-- in order, by the numbers' words -/
def Srt (l : List Nat) : Prop := l.Pairwise (fun x y => code x ≤ code y)
/-- words of 64 bits -/
def W64 (l : List Nat) : Prop := ∀ x ∈ l, x < 18446744073709551616

theorem srt_append {A C : List Nat} : Srt (A ++ C) ↔ Srt A ∧ Srt C ∧ ∀ x ∈ A, ∀ y ∈ C, code x ≤ code y := List.pairwise_append

theorem srt_cons {x : Nat} {C : List Nat} : Srt (x :: C) ↔ (∀ y ∈ C, code x ≤ code y) ∧ Srt C := List.pairwise_cons

theorem srt_one (x : Nat) : Srt [x] := List.pairwise_singleton _ _

theorem srt_insert {Z1 Z2 : List Nat} {x : Nat} (h : Srt (Z1 ++ Z2)) (h2 : ∀ z ∈ Z2, code x < code z) (h1 : Z1 = [] ∨ ∃ Z y, Z1 = Z ++ [y] ∧ ¬ code x < code y) : Srt (Z1 ++ x :: Z2) := by
  obtain ⟨a, b, c⟩ := srt_append.1 h
  refine srt_append.2 ⟨a, srt_cons.2 ⟨fun y hy => Nat.le_of_lt (h2 y hy), b⟩, ?_⟩
  intro z hz y hy
  rcases List.mem_cons.1 hy with rfl | hy
  · rcases h1 with rfl | ⟨Z, q, rfl, hq⟩
    · cases hz
    · rcases List.mem_append.1 hz with hz | hz
      · have := (srt_append.1 a).2.2 z hz q (by simp)
        omega
      · obtain rfl := List.mem_singleton.1 hz
        omega
  · exact c z hz y hy

theorem cmp_lt {x y : Nat} (h : code x < code y) : cmpN (code x) (code y) < 0 := by unfold cmpN; rw [if_pos h]; omega
theorem cmp_ge {x y : Nat} (h : ¬ code x < code y) : ¬ cmpN (code x) (code y) < 0 := by
  unfold cmpN; rw [if_neg h]; split <;> omega

theorem cmp_quiet (a b : Nat) (ha : a < 18446744073709551616) (hb : b < 18446744073709551616) (w : World) :
    Calls Try.prog 20 #[.float .f64 a, .float .f64 b] w fun e w' => e = .returned (.int .i64 (cmpN (code a) (code b))) ∧ w' = w :=
  (cmp_any a b ha hb w).mono fun _ _ ⟨h1, h2⟩ => ⟨h1, h2.symm⟩

/-- two neighbours, exchanged -/
theorem set_two (A C : List Nat) (x y : Nat) {j : Nat} (hj : j = A.length) :
    (A ++ y :: x :: C).getD j 0 = y ∧ (A ++ y :: x :: C).getD (j + 1) 0 = x ∧
    ((A ++ y :: x :: C).set (j + 1) y).set j x = A ++ x :: y :: C ∧ ((A ++ y :: x :: C).set j x).set (j + 1) y = A ++ x :: y :: C := by
  subst hj
  refine ⟨?_, ?_, ?_, ?_⟩
  · simp [List.getD]
  · simp [List.getD]
  · simp
  · simp

/-- the function value that the sort is handed -/
abbrev cmpF : Value := .func (.func 20) #[] #[]

def InsRel (w : World) (B g cap : Nat) (P X S : List Nat) (a : Nat) (i : Value) (wr : World) : Prop :=
  ∃ (ii k : Nat) (Z : List Nat), ii = a + k ∧ 1 ≤ k ∧ k ≤ X.length + 1 ∧ i = .int .i64 ii ∧ Z.Perm (X.take k) ∧ Srt Z ∧ Sr wr B g cap (P ++ Z ++ X.drop k ++ S) ∧ Below B w wr

def InnRel (w : World) (B g cap : Nat) (P Z : List Nat) (x : Nat) (R : List Nat) (a : Nat) (j : Value) (wr : World) : Prop :=
  ∃ (jj q : Nat) (Z1 Z2 : List Nat), jj = a + q ∧ Z1.length = q ∧ Z = Z1 ++ Z2 ∧ (∀ z ∈ Z2, code x < code z) ∧ j = .int .i64 jj ∧ Sr wr B g cap (P ++ Z1 ++ x :: (Z2 ++ R)) ∧ Below B w wr

def InsEnd (w : World) (B g cap : Nat) (P X S : List Nat) (e : Ending) (w' : World) : Prop :=
  e = .returned (.tuple #[]) ∧ ∃ Z : List Nat, Z.Perm X ∧ Srt Z ∧ Sr w' B g cap (P ++ Z ++ S) ∧ Below B w w'

set_option maxHeartbeats 3200000 in
theorem insert_any (w : World) (B g cap : Nat) (P X S : List Nat) (a b len : Nat) (ha : a = P.length) (hb : b = P.length + X.length)
    (hlen : len = (P ++ X ++ S).length) (h100 : len ≤ 1000) (h64 : W64 (P ++ X ++ S)) (h : Sr w B g cap (P ++ X ++ S)) :
    Calls Try.prog 46 #[.slice (some ⟨g, 0, none⟩) len cap, .int .i64 a, .int .i64 b, cmpF] w (InsEnd w B g cap P X S) := by
  have H := Lib.hid h
  have hlen2 : len = P.length + X.length + S.length := by rw [hlen]; simp; omega
  have Ha := Lib.hid ha
  have Hb := Lib.hid hb
  have Hl := Lib.hid hlen2
  have H64 := Lib.hid h64
  have i1 : a ≤ b := by omega
  have i2 : b ≤ len := by omega
  clear h ha hb hlen hlen2 h64
  go_enter Try.func46, Try.ntmps46
  go_wp2
  go_loopw [8, 9] (fun i _ wr => InsRel w B g cap P X S a i wr) (fun i _ _ => b + 1 - (intOf i).toNat)
  case atStart =>
    refine ⟨a + 1, 1, X.take 1, rfl, by omega, by omega, by go_num, List.Perm.refl _, ?_, ?_, Below.refl _ _⟩
    · match X with
      | [] => exact List.Pairwise.nil
      | x :: _ => exact srt_one x
    · have := H.out
      rw [List.append_assoc P, List.take_append_drop]; exact this
  case round =>
    obtain ⟨ii, k, Z, hii, hk1, hk2, rfl, hperm, hsrt, hr, hbel⟩ := hrel
    have Hii := Lib.hid hii
    have hi1 : a < ii := by omega
    have hkX : k ≤ b - a + 1 := by have := Ha.out; have := Hb.out; omega
    clear hii
    have HR := Lib.hid hr
    have HB := Lib.hid hbel
    have HP := Lib.hid hperm
    have HS := Lib.hid hsrt
    clear hr hbel hperm hsrt
    by_cases hlt : ii < b
    · have hak : a + k < b := by have := Hii.out; omega
      have hkl : k < X.length := by have := Ha.out; have := Hb.out; omega
      have hZl : Hid (Z.length = k) := Lib.hid (by rw [HP.out.length_eq]; simp; omega)
      have hdr : Hid (X.drop k = X.getD k 0 :: X.drop (k + 1)) := Lib.hid (drop_cons' X k hkl)
      have hx64 : X.getD k 0 < 18446744073709551616 := H64.out _ (by
        rw [List.getD_eq_getElem?_getD, List.getElem?_eq_getElem hkl]
        simp)
      have hZ64 : Hid (W64 Z) := Lib.hid (fun z hz => H64.out z (by
        have := HP.out.mem_iff.1 hz
        have := List.mem_of_mem_take this
        simp [this]))
      have hts : Hid (X.take (k + 1) = X.take k ++ [X.getD k 0]) := Lib.hid (take_snoc' X k hkl)
      have hXl := Lib.hid hkl
      clear hkl
      generalize hX0 : X.getD k 0 = x at *
      clear hX0
      obtain ⟨R, hR⟩ : ∃ R, Hid (X.drop (k + 1) ++ S = R) := ⟨_, Lib.hid rfl⟩
      have hRl : Hid (len = P.length + k + 1 + R.length) := Lib.hid (by rw [← hR.out, Hl.out]; have := hXl.out; simp; omega)
      have hstart : Hid (Sr wr B g cap (P ++ Z ++ x :: ([] ++ R))) := Lib.hid (by have := HR.out; rw [hdr.out, ← hR.out] at *; simpa using this)
      go_wp2
      obtain ⟨W, hW⟩ : ∃ W : World, W = wr := ⟨_, rfl⟩
      subst hW
      go_loopw [9] (fun j wr => InnRel w B g cap P Z x R a j wr) (fun j _ => (intOf j).toNat)
      case atStart => exact ⟨ii, k, Z, [], Hii.out, hZl.out, by simp, by simp, rfl, hstart.out, HB.out⟩
      case round =>
        clear HR HB hstart
        obtain ⟨jj, q, Z1, Z2, hjj, hq, hZ, hgt, rfl, hr, hbel⟩ := hrel
        have Hjj := Lib.hid hjj
        clear hjj
        have Hq := Lib.hid hq
        have HZ := Lib.hid hZ
        have HG := Lib.hid hgt
        have HR := Lib.hid hr
        have HB := Lib.hid hbel
        have hqk : q ≤ k := by have := hZl.out; rw [hZ] at this; simp at this; omega
        clear hq hZ hgt hr hbel
        have hjl : jj < len := by have := Hjj.out; omega
        by_cases hq0 : a < jj
        · -- there is one ahead
          obtain ⟨Y, y, hY⟩ : ∃ Y y, Z1 = Y ++ [y] := ⟨Z1.dropLast, Z1.getLast (by intro e; have := Hq.out; rw [e] at this; simp at this; have := Hjj.out; omega), (List.dropLast_concat_getLast _).symm⟩
          obtain ⟨jm, hjm⟩ : ∃ jm, jj = jm + 1 := ⟨jj - 1, by omega⟩
          have hYl : Hid (Y.length = q - 1) := Lib.hid (by have := Hq.out; rw [hY] at this; simp at this; omega)
          have hD : Hid (Sr wr B g cap ((P ++ Y) ++ y :: x :: (Z2 ++ R))) := Lib.hid (by have := HR.out; rw [hY] at this; simpa using this)
          have hA : Hid (jm = (P ++ Y).length) := Lib.hid (by have := hYl.out; have := Ha.out; have := Hjj.out; simp; omega)
          obtain ⟨s1, s2, s3, _⟩ := set_two (P ++ Y) (Z2 ++ R) x y hA.out
          have hDl : Hid (len = ((P ++ Y) ++ y :: x :: (Z2 ++ R)).length) := Lib.hid (by
            have h1 := hRl.out
            have h2 := hZl.out
            have h3 := hYl.out
            have h4 := Hjj.out
            rw [HZ.out, hY] at h2
            simp at h2 ⊢
            omega)
          have c1 := sr_cell hD.out (i := jm) (by rw [← hDl.out]; omega)
          have c2 := sr_cell hD.out (i := jj) (by rw [← hDl.out]; omega)
          rw [s1] at c1
          rw [hjm, s2, ← hjm] at c2
          rw [← hjm] at s3
          have f1 := sr_free hD.out (by simp) jm
          have f2 := sr_free hD.out (by simp) jj
          have hy64 : y < 18446744073709551616 := hZ64.out y (by rw [HZ.out, hY]; simp)
          have e1 : (jj : Int) - 1 = (jm : Int) := by omega
          have hjm2 : jm < jj := by omega
          have Hjm := Lib.hid hjm
          have hnext := Lib.hid (sr_set (sr_set hD.out (i := jj) (by rw [← hDl.out]; omega) y) (i := jm) (by rw [List.length_set, ← hDl.out]; omega) x)
          rw [s3] at hnext
          have hlow := sr_low hD.out (by simp)
          have hB2 := Lib.hid ((HB.out.setCell (p := ⟨g, jj, none⟩) hlow.1 (.float .f64 y)).setCell (p := ⟨g, jm, none⟩) hlow.1 (.float .f64 x))
          have HY := Lib.hid hY
          clear hjm s1 s2 s3 hlow hY
          by_cases hc : code x < code y
          · have hcc := cmp_lt hc
            have Hc := Lib.hid hc
            clear hc
            go_wp2
            go_quiet ((go_at_call 20; exact Calls.quiet_of_same (cmp_quiet _ _ hx64 hy64 _)))
            go_wp2
            go_region
            go_wp2
            go_roundw
            case rel =>
              refine ⟨jm, q - 1, Y, y :: Z2, ?_, hYl.out, ?_, ?_, rfl, ?_, ?_⟩
              · have := Hjm.out; have := Hjj.out; omega
              · rw [HZ.out, HY.out]; simp
              · intro z hz
                rcases List.mem_cons.1 hz with rfl | hz
                · exact Hc.out
                · exact HG.out z hz
              · rw [show P ++ Y ++ x :: (y :: Z2 ++ R) = (P ++ Y) ++ x :: y :: (Z2 ++ R) from by simp]
                exact sr_drew hnext.out (nq + 1)
              · exact below_drewN hB2.out (nq + 1)
            case measure => simp [intOf]; have := Hjm.out; omega
          · have hcc := cmp_ge hc
            have Hc := Lib.hid hc
            clear hc
            go_wp2
            go_quiet ((go_at_call 20; exact Calls.quiet_of_same (cmp_quiet _ _ hx64 hy64 _)))
            go_wp2
            go_roundw
            case rel =>
              refine ⟨ii + 1, k + 1, Z1 ++ x :: Z2, ?_, by omega, ?_, by go_num, ?_, ?_, ?_, ?_⟩
              · have := Hii.out; omega
              · have := hXl.out; omega
              · rw [hts.out]
                exact List.perm_middle.trans ((List.Perm.cons x (by rw [← HZ.out]; exact HP.out)).trans (List.perm_append_singleton x _).symm)
              · exact srt_insert (by rw [← HZ.out]; exact HS.out) HG.out (.inr ⟨Y, y, HY.out, Hc.out⟩)
              · have := sr_drew HR.out nq
                rw [← hR.out] at this
                simpa using this
              · exact below_drewN HB.out nq
            case measure => simp [intOf]; omega
        · have hjj0 : jj = a := by have := Hjj.out; omega
          have hz1 : Hid (Z1 = []) := Lib.hid (List.eq_nil_of_length_eq_zero (by have := Hq.out; have := Hjj.out; omega))
          have hd : decide ((a : Int) < (jj : Int)) = false := by simp; omega
          clear hjj0
          go_wp2
          go_quiet (fail)
          go_wp2
          go_roundw
          case rel =>
            refine ⟨ii + 1, k + 1, Z1 ++ x :: Z2, ?_, by omega, ?_, by go_num, ?_, ?_, ?_, ?_⟩
            · have := Hii.out; omega
            · have := hXl.out; omega
            · rw [hts.out]
              exact List.perm_middle.trans ((List.Perm.cons x (by rw [← HZ.out]; exact HP.out)).trans (List.perm_append_singleton x _).symm)
            · exact srt_insert (by rw [← HZ.out]; exact HS.out) HG.out (.inl hz1.out)
            · have := sr_drew HR.out nq
              rw [← hR.out] at this
              simpa using this
            · exact below_drewN HB.out nq
          case measure => simp [intOf]; omega
    · have h1 : X.take k = X := List.take_of_length_le (by have := Hii.out; have := Ha.out; have := Hb.out; omega)
      have h2 : X.drop k = [] := List.drop_of_length_le (by have := Hii.out; have := Ha.out; have := Hb.out; omega)
      have HP2 := Lib.hid HP.out
      have HR2 := Lib.hid HR.out
      rw [h1] at HP2
      rw [h2] at HR2
      clear h1 h2
      go_wp2
      go_end0
      exact ⟨rfl, Z, HP2.out, HS.out, by have := HR2.out; simpa using this, HB.out⟩

end Go.Proofs.Ytohkjjmknpbdaaa
