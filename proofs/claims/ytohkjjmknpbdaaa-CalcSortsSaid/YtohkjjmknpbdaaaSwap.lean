/- Exchanges in a row of floats that the call owns: swapRange and rotate (package slices), by what they make of the list. -/
import Derived.Test.YtohkjjmknpbdaaaAppend
namespace Go.Proofs.Ytohkjjmknpbdaaa
open Go.RowKit Fl

@[go_sem] theorem run_store_float {P : Program} {w : World} {a : Addr} {m : Mode} (k : FloatKind) (n : Nat) : (store a (.float k n) m).run P w = stored P w a (.float k n) m := run_store P w a _ m rfl

/-- A row of floats that the call owns, in block g; its capacity may have been clipped, so the block may hold more. -/
def Sr (w : World) (B g _cap : Nat) (D : List Nat) : Prop := ∃ mc, Own w B (.slice (some ⟨g, 0, none⟩) D.length mc) D

theorem sr_parts {w : World} {B g cap : Nat} {D : List Nat} (h : Sr w B g cap D) (_h0 : D ≠ []) :
    ∃ mc cur, B ≤ g ∧ w.heap[g]? = some (.cells cur 24 (0, 0)) ∧ D.length ≤ mc ∧ mc ≤ maxLen ∧ cur.size = mc ∧ cur.toList.take D.length = D.map (Value.float .f64) := by
  obtain ⟨mc, h⟩ := h
  rcases h.2 with ⟨e, _⟩ | ⟨g', cap', cur, e, h1, h2, h3, h4, h5, h6⟩
  · cases e
  · injection e with e1 e2 e3
    injection e1 with e1
    injection e1 with e1
    subst e1; subst e3
    exact ⟨mc, cur, h1, h2, h3, h4, by simpa using h5, by simpa using h6⟩

theorem sr_mk {w : World} {B g cap mc : Nat} {D : List Nat} {cur : Array Value} (h1 : B ≤ g) (h2 : w.heap[g]? = some (.cells cur 24 (0, 0))) (h3 : D.length ≤ mc) (h4 : mc ≤ maxLen) (h5 : cur.size = mc)
    (h6 : cur.toList.take D.length = D.map (Value.float .f64)) : Sr w B g cap D :=
  ⟨mc, by simp, .inr ⟨g, mc, cur, rfl, h1, h2, h3, h4, by simpa using h5, by simpa using h6⟩⟩

theorem sr_cap {w : World} {B g cap cap' : Nat} {D : List Nat} (h : Sr w B g cap D) : Sr w B g cap' D := h

theorem sr_own {w : World} {B g cap : Nat} {D : List Nat} (h : Own w B (.slice (some ⟨g, 0, none⟩) D.length cap) D) : Sr w B g cap D := ⟨cap, h⟩

theorem sr_cell {w : World} {B g cap : Nat} {D : List Nat} (h : Sr w B g cap D) {i : Nat} (hi : i < D.length) : w.cell? ⟨g, i, none⟩ = some (.float .f64 (D.getD i 0)) := by
  obtain ⟨mc, h⟩ := h
  have := World.ownsRow.cells h (g := g) rfl i (.float .f64 (D.getD i 0)) (by simp [List.getD, hi])
  by_cases h0 : i = 0
  · subst h0; simpa [Addr.add] using this
  · simpa [Addr.add, h0] using this

theorem sr_free {w : World} {B g cap : Nat} {D : List Nat} (h : Sr w B g cap D) (h0 : D ≠ []) (i : Nat) : w.frozen? ⟨g, i, none⟩ = false := by
  obtain ⟨_, cur, _, h2, _⟩ := sr_parts h h0
  simp [World.frozen?, h2]

theorem sr_low {w : World} {B g cap : Nat} {D : List Nat} (h : Sr w B g cap D) (h0 : D ≠ []) : B ≤ g ∧ g < w.heap.size := by
  obtain ⟨_, cur, h1, h2, _⟩ := sr_parts h h0
  exact ⟨h1, (Array.getElem?_eq_some_iff.1 h2).1⟩

theorem sr_set {w : World} {B g cap : Nat} {D : List Nat} (h : Sr w B g cap D) {i : Nat} (hi : i < D.length) (x : Nat) : Sr (w.setCell ⟨g, i, none⟩ (.float .f64 x)) B g cap (D.set i x) := by
  have h0 : D ≠ [] := by intro e; rw [e] at hi; simp at hi
  obtain ⟨mc, cur, h1, h2, h3, h4, h5, h6⟩ := sr_parts h h0
  refine sr_mk (cap := cap) (cur := cur.setIfInBounds i (.float .f64 x)) h1 ?_ (by simpa using h3) h4 (by simpa using h5) ?_
  · simp [World.setCell, Array.getElem?_modify, h2]
  · rw [List.length_set, Array.toList_setIfInBounds, List.take_set, h6, List.map_set]

theorem sr_drew {w : World} {B g cap : Nat} {D : List Nat} (h : Sr w B g cap D) (n : Nat) : Sr (w.drewN n) B g cap D := h

/-- The ranges have been exchanged as far as k. -/
def half (P X Q Y S : List Nat) (k : Nat) : List Nat := P ++ (Y.take k ++ X.drop k) ++ Q ++ (X.take k ++ Y.drop k) ++ S

theorem half_len (P X Q Y S : List Nat) (k : Nat) (h : X.length = Y.length) (hk : k ≤ X.length) : (half P X Q Y S k).length = P.length + X.length + Q.length + X.length + S.length := by
  unfold half; simp; omega

theorem set_mid (A B : List Nat) (x y : Nat) {i : Nat} (h : i = A.length) : (A ++ x :: B).set i y = A ++ y :: B := by
  subst h
  simp

theorem getD_mid (A B : List Nat) (x : Nat) {i : Nat} (h : i = A.length) : (A ++ x :: B).getD i 0 = x := by
  subst h
  simp [List.getD]

theorem drop_cons' (X : List Nat) (k : Nat) (h : k < X.length) : X.drop k = X.getD k 0 :: X.drop (k + 1) := by
  rw [List.drop_eq_getElem_cons h]; simp [List.getD, h]

theorem take_snoc' (X : List Nat) (k : Nat) (h : k < X.length) : X.take (k + 1) = X.take k ++ [X.getD k 0] := by
  rw [List.take_succ_eq_append_getElem h]; simp [List.getD, h]

/-- what the two places hold, and what the exchange makes of the list -/
theorem half_step (P X Q Y S : List Nat) (k : Nat) (h : X.length = Y.length) (hk : k < X.length) :
    (half P X Q Y S k).getD (P.length + k) 0 = X.getD k 0 ∧ (half P X Q Y S k).getD (P.length + X.length + Q.length + k) 0 = Y.getD k 0 ∧
    ((half P X Q Y S k).set (P.length + k) (Y.getD k 0)).set (P.length + X.length + Q.length + k) (X.getD k 0) = half P X Q Y S (k + 1) := by
  have hk2 : k < Y.length := by omega
  have l1 : (P ++ Y.take k).length = P.length + k := by simp; omega
  have l2 : (P ++ (Y.take k ++ X.drop k) ++ Q ++ X.take k).length = P.length + X.length + Q.length + k := by simp; omega
  have e1 : half P X Q Y S k = (P ++ Y.take k) ++ X.getD k 0 :: (X.drop (k + 1) ++ Q ++ (X.take k ++ Y.drop k) ++ S) := by
    unfold half; rw [drop_cons' X k hk]; simp
  have e2 : half P X Q Y S k = (P ++ (Y.take k ++ X.drop k) ++ Q ++ X.take k) ++ Y.getD k 0 :: (Y.drop (k + 1) ++ S) := by
    unfold half; rw [drop_cons' Y k hk2]; simp
  refine ⟨?_, ?_, ?_⟩
  · rw [e1]; exact getD_mid _ _ _ l1.symm
  · rw [e2]; exact getD_mid _ _ _ l2.symm
  · rw [e1, set_mid _ _ _ _ l1.symm]
    have e3 : (P ++ Y.take k) ++ Y.getD k 0 :: (X.drop (k + 1) ++ Q ++ (X.take k ++ Y.drop k) ++ S) = (P ++ (Y.take (k + 1) ++ X.drop (k + 1)) ++ Q ++ X.take k) ++ Y.getD k 0 :: (Y.drop (k + 1) ++ S) := by
      rw [take_snoc' Y k hk2, drop_cons' Y k hk2]; simp
    rw [e3, set_mid _ _ _ _ (by simp; omega)]
    unfold half
    rw [take_snoc' X k hk]
    simp

theorem half_zero (P X Q Y S : List Nat) : half P X Q Y S 0 = P ++ X ++ Q ++ Y ++ S := by unfold half; simp
theorem half_full (P X Q Y S : List Nat) (h : X.length = Y.length) : half P X Q Y S X.length = P ++ Y ++ Q ++ X ++ S := by
  unfold half; rw [List.take_of_length_le (by omega), List.drop_of_length_le (by omega), List.take_of_length_le (by omega), List.drop_of_length_le (by omega)]; simp

def SwRel (w : World) (B g cap : Nat) (P X Q Y S : List Nat) (i : Value) (wr : World) : Prop :=
  ∃ k : Nat, k ≤ X.length ∧ i = .int .i64 k ∧ Sr wr B g cap (half P X Q Y S k) ∧ Below B w wr

/-- how such a call ends -/
def SrEnd (w : World) (B g cap : Nat) (D : List Nat) (e : Ending) (w' : World) : Prop := e = .returned (.tuple #[]) ∧ Sr w' B g cap D ∧ Below B w w'

set_option maxHeartbeats 1600000 in
theorem swap_any (w : World) (B g cap : Nat) (P X Q Y S : List Nat) (a b n len : Nat) (f : Value) (hX : X.length = n) (hY : Y.length = n) (ha : a = P.length) (hb : b = P.length + X.length + Q.length)
    (hlen : len = (P ++ X ++ Q ++ Y ++ S).length) (h100 : len ≤ 1000) (h : Sr w B g cap (P ++ X ++ Q ++ Y ++ S)) :
    Calls Try.prog 49 #[.slice (some ⟨g, 0, none⟩) len cap, .int .i64 a, .int .i64 b, .int .i64 n, f] w (SrEnd w B g cap (P ++ Y ++ Q ++ X ++ S)) := by
  have hlen2 : len = P.length + n + Q.length + n + S.length := by rw [hlen]; simp; omega
  have hXY := Lib.hid (show X.length = Y.length by omega)
  have H := Lib.hid h
  have hXn := Lib.hid hX
  have hah := Lib.hid ha
  have hbh := Lib.hid hb
  have hl := Lib.hid hlen2
  have i1 : a + n ≤ b := by omega
  have i2 : b + n ≤ len := by omega
  clear h hX hY ha hb hlen hlen2
  go_enter Try.func49, Try.ntmps49
  go_wp2
  go_loopw [10] (fun i wr => SwRel w B g cap P X Q Y S i wr) (fun i _ => n - (intOf i).toNat)
  case atStart => exact ⟨0, Nat.zero_le _, rfl, by rw [half_zero]; exact H.out, Below.refl _ _⟩
  case round =>
    obtain ⟨k, hk, rfl, hr, hbel⟩ := hrel
    have hk' : k ≤ n := by have := hXn.out; omega
    by_cases hlt : k < n
    · have hkx : k < X.length := by have := hXn.out; omega
      obtain ⟨s1, s2, s3⟩ := half_step P X Q Y S k hXY.out hkx
      have hL := half_len P X Q Y S k hXY.out hk
      have hne : half P X Q Y S k ≠ [] := by intro e; rw [e] at hL; simp at hL; omega
      have c1 := sr_cell hr (i := a + k) (by have := hl.out; have := hah.out; have := hXn.out; omega)
      have c2 := sr_cell hr (i := b + k) (by have := hl.out; have := hbh.out; have := hXn.out; omega)
      rw [hah.out, s1, ← hah.out] at c1
      rw [hbh.out, s2, ← hbh.out] at c2
      have f1 := sr_free hr hne (a + k)
      have f2 := sr_free hr hne (b + k)
      have hR := Lib.hid (sr_set (sr_set hr (i := a + k) (by have := hl.out; have := hah.out; have := hXn.out; omega) (Y.getD k 0)) (i := b + k) (by have := hl.out; have := hbh.out; have := hXn.out; simp; omega) (X.getD k 0))
      have hS : Hid (((half P X Q Y S k).set (a + k) (Y.getD k 0)).set (b + k) (X.getD k 0) = half P X Q Y S (k + 1)) := Lib.hid (by rw [hah.out, hbh.out]; exact s3)
      rw [hS.out] at hR
      have hBel := Lib.hid ((hbel.setCell (p := ⟨g, a + k, none⟩) (sr_low hr hne).1 (.float .f64 (Y.getD k 0))).setCell (p := ⟨g, b + k, none⟩) (sr_low hr hne).1 (.float .f64 (X.getD k 0)))
      have e1 : ((a : Int) + (k : Int)).toNat = a + k := by omega
      have e2 : ((b : Int) + (k : Int)).toNat = b + k := by omega
      have hne2 : a + k ≠ b + k := by omega
      clear s1 s2 s3 hL hne hr hbel hS hkx
      generalize X.getD k 0 = x at *
      generalize Y.getD k 0 = y at *
      go_wp2
      go_region
      go_wp2
      go_roundw
      case rel => exact ⟨k + 1, by have := hXn.out; omega, by go_num, sr_drew hR.out 1, hBel.out.drew⟩
      case measure => simp [intOf]; omega
    · have hk2 : k = X.length := by have := hXn.out; omega
      rw [hk2, half_full _ _ _ _ _ hXY.out] at hr
      have hR := Lib.hid hr
      clear hr hk2
      go_wp2
      go_end0
      exact ⟨rfl, hR.out, hbel⟩

/-- exchanging two runs that stand side by side -/
def RotRel2 (w : World) (B g cap : Nat) (G : List Nat) (m : Nat) (i j : Value) (wr : World) : Prop :=
  ∃ (u v : Nat) (P U V S : List Nat), U.length = u ∧ V.length = v ∧ 0 < u ∧ 0 < v ∧ i = .int .i64 u ∧ j = .int .i64 v ∧ m = P.length + u ∧ G = P ++ V ++ U ++ S ∧ Sr wr B g cap (P ++ U ++ V ++ S) ∧ Below B w wr

set_option maxHeartbeats 3200000 in
theorem rotate_any (w : World) (B g cap : Nat) (P U V S : List Nat) (a m b len u v : Nat) (f : Value) (hu : U.length = u) (hv : V.length = v) (ha : a = P.length) (hm : m = P.length + u) (hb : b = P.length + u + v)
    (hU : 0 < u) (hV : 0 < v) (hlen : len = (P ++ U ++ V ++ S).length) (h100 : len ≤ 1000) (h : Sr w B g cap (P ++ U ++ V ++ S)) :
    Calls Try.prog 48 #[.slice (some ⟨g, 0, none⟩) len cap, .int .i64 a, .int .i64 m, .int .i64 b, f] w (SrEnd w B g cap (P ++ V ++ U ++ S)) := by
  have H := Lib.hid h
  have hlen2 : len = P.length + u + v + S.length := by rw [hlen]; simp; omega
  obtain ⟨G, hG⟩ : ∃ G, Hid (G = P ++ V ++ U ++ S) := ⟨_, Lib.hid rfl⟩
  have hGl : Hid (G.length = len) := Lib.hid (by rw [hG.out, hlen2]; simp; omega)
  rw [← hG.out]
  have e1 : (m : Int) - (a : Int) = (u : Int) := by omega
  have e2 : (b : Int) - (m : Int) = (v : Int) := by omega
  have hmh := Lib.hid hm
  have hm1 : m ≤ len := by omega
  have hu1 : u ≤ 1000 := by omega
  have hv1 : v ≤ 1000 := by omega
  have huh := Lib.hid hu
  have hvh := Lib.hid hv
  clear h hlen hlen2 ha hm hb hu hv
  go_enter Try.func48, Try.ntmps48
  go_wp2
  clear e1 e2
  go_loopw [10, 11] (fun i j wr => RotRel2 w B g cap G m i j wr) (fun i j _ => (intOf i).toNat + (intOf j).toNat)
  case atStart => exact ⟨u, v, P, U, V, S, huh.out, hvh.out, hU, hV, rfl, rfl, hmh.out, hG.out, H.out, Below.refl _ _⟩
  case round =>
    clear hU hV hu1 hv1 huh hvh hmh hG H
    obtain ⟨u, v, P, U, V, S, hu, hv, hu0, hv0, rfl, rfl, hm, hG, hr, hbel⟩ := hrel
    have hlen : len = P.length + u + v + S.length := by rw [← hGl.out, hG]; simp; omega
    have hu1 : u ≤ m := by omega
    have hv1 : m + v ≤ len := by omega
    have HR := Lib.hid hr
    have HB := Lib.hid hbel
    have HG := Lib.hid hG
    have Hm := Lib.hid hm
    have Hl := Lib.hid hlen
    have Hu := Lib.hid hu
    have Hv := Lib.hid hv
    clear hr hbel hG hm hlen hu hv
    rcases Nat.lt_trichotomy u v with hc | hc | hc
    · -- the left one is the shorter
      have d1 : (m : Int) - (u : Int) = ((m - u : Nat) : Int) := by omega
      have d2 : (m : Int) + (v : Int) - (u : Int) = ((m + v - u : Nat) : Int) := by omega
      have d3 : (v : Int) - (u : Int) = ((v - u : Nat) : Int) := by omega
      have hne : ((u : Int) == (v : Int)) = false := by simp; omega
      go_wp2_with fail
      have hV : V = V.take (v - u) ++ V.drop (v - u) := (List.take_append_drop _ _).symm
      have l1 : (V.take (v - u)).length = v - u := by have := Hv.out; simp; omega
      have l2 : (V.drop (v - u)).length = u := by have := Hv.out; simp; omega
      have hr2 : Sr wr B g cap (P ++ U ++ V.take (v - u) ++ V.drop (v - u) ++ S) := by have := HR.out; rw [hV] at this; simpa using this
      refine (swap_any wr B g cap P U (V.take (v - u)) (V.drop (v - u)) S (m - u) (m + v - u) u len f Hu.out l2 (by have := Hm.out; omega) (by have := Hm.out; have := Hu.out; omega) (by have := Hl.out; have := Hu.out; simp only [List.length_append]; omega) h100 hr2).mono ?_
      rintro e w1 ⟨rfl, hr3, hb3⟩
      have HR3 := Lib.hid hr3
      have HB3 := Lib.hid (HB.out.trans hb3)
      have HG2 : Hid (G = P ++ V.take (v - u) ++ V.drop (v - u) ++ (U ++ S)) := Lib.hid (by have := HG.out; rw [hV] at this; rw [this]; simp)
      have L1 := Lib.hid l1
      have L2 := Lib.hid l2
      clear hV l1 l2 hr2 hr3 hb3
      go_wp2
      go_roundw
      case rel => exact ⟨u, v - u, P, V.drop (v - u), V.take (v - u), U ++ S, L2.out, L1.out, hu0, by omega, rfl, rfl, Hm.out, by rw [HG2.out], by have := HR3.out; simpa using this, HB3.out⟩
      case measure => simp [intOf]; omega
    · -- as long
      subst hc
      have d1 : (m : Int) - (u : Int) = ((m - u : Nat) : Int) := by omega
      go_wp2_with fail
      refine (swap_any wr B g cap P U [] V S (m - u) m u len f Hu.out Hv.out (by have := Hm.out; omega) (by have := Hm.out; have := Hu.out; simp; omega) (by have := Hl.out; have := Hu.out; have := Hv.out; simp; omega) h100 (by have := HR.out; simpa using this)).mono ?_
      rintro e w1 ⟨rfl, hr3, hb3⟩
      have HR3 := Lib.hid hr3
      have HB3 := Lib.hid (HB.out.trans hb3)
      clear hr3 hb3
      go_wp2
      go_end0
      exact ⟨rfl, by rw [HG.out]; have := HR3.out; simpa using this, HB3.out⟩
    · -- the right one is the shorter
      have d1 : (m : Int) - (u : Int) = ((m - u : Nat) : Int) := by omega
      have d3 : (u : Int) - (v : Int) = ((u - v : Nat) : Int) := by omega
      have hne : ((u : Int) == (v : Int)) = false := by simp; omega
      go_wp2_with fail
      have hU : U = U.take v ++ U.drop v := (List.take_append_drop _ _).symm
      have l1 : (U.take v).length = v := by have := Hu.out; simp; omega
      have l2 : (U.drop v).length = u - v := by have := Hu.out; simp; omega
      have hr2 : Sr wr B g cap (P ++ U.take v ++ U.drop v ++ V ++ S) := by have := HR.out; rw [hU] at this; simpa using this
      refine (swap_any wr B g cap P (U.take v) (U.drop v) V S (m - u) m v len f l1 Hv.out (by have := Hm.out; omega) (by have := Hm.out; omega) (by have := Hl.out; have := Hv.out; simp only [List.length_append]; omega) h100 hr2).mono ?_
      rintro e w1 ⟨rfl, hr3, hb3⟩
      have HR3 := Lib.hid hr3
      have HB3 := Lib.hid (HB.out.trans hb3)
      have HG2 : Hid (G = (P ++ V) ++ U.take v ++ U.drop v ++ S) := Lib.hid (by have := HG.out; rw [hU] at this; rw [this]; simp)
      have L1 := Lib.hid l1
      have L2 := Lib.hid l2
      clear hU l1 l2 hr2 hr3 hb3
      go_wp2
      go_roundw
      case rel => exact ⟨u - v, v, P ++ V, U.drop v, U.take v, S, L2.out, L1.out, by omega, hv0, rfl, rfl, by have := Hm.out; have := Hv.out; simp; omega, by rw [HG2.out], by have := HR3.out; simpa using this, HB3.out⟩
      case measure => simp [intOf]; omega

end Go.Proofs.Ytohkjjmknpbdaaa
