/- The law 'CalcEdges', its walk: for whatever whole numbers and edges the call returns true and writes nothing that was there. -/
import Derived.Test.YtohkjjmknpbdaaaEdgesPlain
import Derived.Test.YtohkjjmknpbdaaaTellsWalk
import Derived.Deep.DeepCutAuto
namespace Go.Proofs.Ytohkjjmknpbdaaa
open Go.RowKit Fl

theorem own_fresh (w : World) (B y n : Nat) (hn : n = w.heap.size) (hB : B ≤ w.heap.size) : Own (w.alloc (.cells #[.float .f64 y] 24)) B (.slice (some ⟨n, 0, none⟩) 1 1) [y] := by
  subst hn
  refine ⟨by simp, .inr ⟨w.heap.size, 1, #[.float .f64 y], rfl, hB, heap_alloc_new w _, by simp, by unfold maxLen; omega, by simp, by simp⟩⟩

theorem run_append_pre (w : World) (B ty : Nat) (i : TypeInfo) (hi : Try.prog.info? 24 = some i) (hz : i.zero = some (.float .f64 0)) (hsize : i.size = 1) (hby : i.bytes = 8)
    (g y : Nat) (hown : Own w B (.slice (some ⟨g, 0, none⟩) 1 1) [y]) (v : Value) (xs : List Nat) (hF : Fsl w v xs) (h63 : xs.length ≤ 1000) (hbase : B ≤ w.heap.size) :
    ∃ v' w', (Builtin.append_ #[23, 23] ty #[.slice (some ⟨g, 0, none⟩) 1 1, v]).run Try.prog w = .ok v' w' ∧ Own w' B v' (y :: xs) ∧ w.grownBy w' (some g) := by
  have some_case : ∀ (a : Addr) (c : Nat), v = .slice (some a) xs.length c → (∀ j u, (xs.map (Value.float .f64))[j]? = some u → w.cell? (a.add j) = some u) →
      ∃ v' w', (Builtin.append_ #[23, 23] ty #[.slice (some ⟨g, 0, none⟩) 1 1, v]).run Try.prog w = .ok v' w' ∧ Own w' B v' (y :: xs) ∧ w.grownBy w' (some g) := by
    intro a c hv hnews
    subst hv
    obtain ⟨v', w', hr, ho, hg, _⟩ := run_append_own (P := Try.prog) w B 23 ty 24 i (.float .f64 0) 1 8 Try.underlying23 hi hz hsize hby rfl (by decide) (.slice (some ⟨g, 0, none⟩) 1 1) 1 [.float .f64 y] hown a xs.length c (xs.map (Value.float .f64)) (by simp) hnews (by intro u hu; obtain ⟨x, _, rfl⟩ := List.mem_map.1 hu; rfl) (by unfold maxLen; omega) (by omega) hbase
    refine ⟨v', w', hr, ?_, hg⟩
    unfold Own
    rw [List.length_cons, List.map_cons, Nat.add_comm]
    exact ho
  obtain ⟨_, _, h | h⟩ := hF
  · obtain ⟨rfl, a, c, hv⟩ := h
    cases a with
    | some a => exact some_case a c hv (by intro j u hj; simp at hj)
    | none =>
      subst hv
      refine ⟨.slice (some ⟨g, 0, none⟩) 1 1, w, ?_, hown, ⟨rfl, rfl, rfl, Nat.le_refl _, fun _ _ _ => rfl⟩⟩
      simp [Builtin.append_, run_underlying Try.underlying23, sizeOf, typeInfo, hi, Builtin.lenOf, Builtin.firstCells, loadCells]
      rfl
  · obtain ⟨hx, b, off, c, hv, hc⟩ := h
    refine some_case _ c hv ?_
    intro j u hj
    have hjl : j < xs.length := by
      have := (List.getElem?_eq_some_iff.1 hj).1
      simpa using this
    rw [Go.WideShapes.add_plain, hc j hjl]
    simp [List.getElem?_eq_getElem hjl] at hj
    simp [List.getD, hjl, hj]

theorem wpList_append_pre {ops : Array Oper} {rest : List Oper} {o : Oper} {a : Act} {Q : Exit → Act → World → Prop} {w : World} (hgd : o.guard = none) (s x : Operand)
    (ho : o.op = .call { callee := .builtin .append, args := #[s, x], argTypes := #[23, 23] })
    (B : Nat) (i : TypeInfo) (hi : Try.prog.info? 24 = some i) (hz : i.zero = some (.float .f64 0)) (hsize : i.size = 1) (hby : i.bytes = 8)
    (g y : Nat) (hs : a.eval s = .slice (some ⟨g, 0, none⟩) 1 1) (hown : Own w B (.slice (some ⟨g, 0, none⟩) 1 1) [y]) (v : Value) (xs : List Nat) (hx : a.eval x = v) (hF : Fsl w v xs)
    (h63 : xs.length ≤ 1000) (hbase : B ≤ w.heap.size)
    (h : ∀ v' w', Own w' B v' (y :: xs) → w.grownBy w' (some g) → wpList Try.prog ops Q rest (a.put o.dst v') w') :
    wpList Try.prog ops Q (o :: rest) a w := by
  refine wpList_plain hgd fun _ hK => ?_
  obtain ⟨v', w', hr, h2, h3⟩ := run_append_pre w B o.type i hi hz hsize hby g y hown v xs hF h63 hbase
  unfold Oper.wp execOp
  simp only [ho, resolve, invoke, builtin, Sem.run_bind, Sem.run_pure, Result.andThen_ok, List.map_toArray, List.map_cons, List.map_nil, hs, hx, hr]
  exact hK _ _ (h v' w' h2 h3)

def EdRel (zs : List Int) (w : World) (B : Nat) (x i : Value) (wr : World) : Prop :=
  ∃ k : Nat, k ≤ zs.length ∧ k ≤ 30 ∧ i = .int .i64 k ∧ Own wr B x (((whole30 zs).take k).map enc) ∧ Below B w wr

set_option maxRecDepth 100000 in
set_option maxHeartbeats 6400000 in
theorem edges_plain (a : Option Addr) (cap : Nat) (zs : List Int) (w : World) (hz : Ins .i64 w a zs) :
    Calls Try.prog 4 #[.slice a zs.length cap, .bool false, .bool false, .bool false] w fun e w' => e = .returned (.bool true) ∧ Below w.heap.size w w' := by
  obtain ⟨hlen, _, hc⟩ := hz
  unfold maxLen at hlen
  have hC := Lib.hid hc
  clear hc
  obtain ⟨i0, hi, hq0, hq1, hq2⟩ := info_parts Try.info24
  have hand := and16
  have hcv := enc_floatOfInt
  obtain ⟨B, hB⟩ : ∃ B, Hid (B = w.heap.size) := ⟨_, rfl⟩
  have hBle : B ≤ w.heap.size := by have := hB.out; omega
  go_enter Try.func4, Try.ntmps4
  go_wp2
  go_loopw [9, 10] (fun x i wr => EdRel zs w B x i wr) (fun _ i _ => zs.length - (intOf i).toNat)
  case atStart => exact ⟨0, Nat.zero_le _, Nat.zero_le _, rfl, by rw [List.take_zero]; exact own_nil _ _, Below.refl _ _⟩
  case round =>
    obtain ⟨k, hk, hk3, rfl, hown, hnwr⟩ := hrel
    have hX := Lib.hid hown
    have hszwr := hnwr.size
    clear hown
    by_cases hlt : k < zs.length ∧ k < 30
    · obtain ⟨hlt1, hlt4⟩ := hlt
      obtain ⟨b, off, rfl, hb, hcell0⟩ := hC.out k hlt1
      have hcell : wr.cell? ⟨b, off + k, none⟩ = some (.int .i64 (zs.getD k 0)) := (hnwr.cell (by have := hB.out; simp; omega)).trans hcell0
      have hts := Lib.hid (whole30_snoc zs k hlt1 hlt4)
      have hxl : Hid ((((whole30 zs).take k).map enc).length ≤ 40) := Lib.hid (by simp; omega)
      clear hcell0 hb
      generalize hXX : zs.getD k 0 = z at *
      obtain ⟨qs, hQ⟩ : ∃ qs, Hid (((whole30 zs).take k).map enc = qs) := ⟨_, rfl⟩
      rw [hQ.out] at hX hxl
      clear hXX
      have hm0 : 0 ≤ z % 65536 := by omega
      have hm1 : z % 65536 < 65536 := by omega
      go_wp2_with (at_builtin; refine wpList_append_fl rfl _ _ rfl B i0 hi hq0 hq1 hq2 _ qs rfl (hX.out.alloc _) ⟨wr.heap.size, 0, none⟩ 1 (enc (z % 65536)) rfl ?c1 ?c2 ?c3 ?_)
      case c1 => simp
      case c2 => have := hxl.out; simp; omega
      case c3 => simp; omega
      intro vw1 w1 hxw1 hgw1 _
      have hnw1 := app_one hnwr hBle hX.out hgw1
      have Hw1 := Lib.hid hxw1
      have hszw1 := hnw1.size
      clear hxw1 hgw1
      clear hX hcell
      go_wp2
      go_roundw
      case rel => exact ⟨k + 1, by omega, by omega, by go_num, by rw [hts.out, List.map_append, hQ.out]; exact Hw1.out, hnw1⟩
      case measure => simp [intOf]; omega
    · have hfull : Hid ((whole30 zs).take k = whole30 zs) := Lib.hid (List.take_of_length_le (by rw [whole30_len]; omega))
      rw [hfull.out] at hX
      have hsm := Lib.hid (whole30_small zs)
      have hlt2 : ¬ k < zs.length ∨ (k < zs.length ∧ ¬ k < 30) := by omega
      have hln := Lib.hid (whole30_len zs)
      clear hlt hfull
      obtain ⟨xs, hxs⟩ : ∃ xs, Hid ((whole30 zs).map enc = xs) := ⟨_, rfl⟩
      have hxl : Hid (xs.length ≤ 30) := Lib.hid (by rw [← hxs.out, List.length_map, hln.out]; omega)
      rw [hxs.out] at hX
      have hNx : Hid (Nums xs) := Lib.hid (by rw [← hxs.out]; exact nums_enc hsm.out)
      rcases hlt2 with hlt2 | ⟨hlt2, hlt3⟩
      all_goals
        have hwd : ∀ x ∈ xs, x < 18446744073709551616 := by
          intro x hx
          have hN := fun y hy => (hNx.out y hy).1
          skip
          skip
          all_goals first | exact hN _ hx | omega
        have FX := Lib.hid (own_fsl hX.out hwd (by have := hxl.out; simp; omega))
        have hbel : Hid (Below w.heap.size w wr) := Lib.hid (by rw [← hB.out]; exact hnwr)
        have S1 : Hid (sumO xs = some (enc (whole30 zs).sum)) := Lib.hid (by rw [← hxs.out]; exact sumO_whole hsm.out)
        have hcv1 : floatOfInt .f64 (whole30 zs).sum = enc (whole30 zs).sum := rfl
        have o1 : FloatKind.f64.format.order (enc (whole30 zs).sum) (enc (whole30 zs).sum) = some .eq := order_self.2 (of_nanB_false (nanB_whole hsm.out.sum))
        have hp := order_posInf
        have hng := order_negInf
        have hz1 : Hid (zs.length = 0 → xs = []) := Lib.hid (by intro h; apply List.eq_nil_of_length_eq_zero; rw [← hxs.out, List.length_map, hln.out]; omega)
        clear hwd hcv
        go_wp2_with fail
        refine (sum_any _ _ _ FX.out).mono ?_
        rintro e w' ⟨s, n1, rfl, rfl, hg1⟩
        rw [S1.out] at hg1
        obtain rfl := hg1.2
        clear hg1
        go_wp2_with fail
        refine (min_any _ _ _ (FX.out.drewN _)).mono ?_
        rintro e w' ⟨lo, rfl, rfl, hg2⟩
        have G2 := Lib.hid hg2
        clear hg2
        go_wp2_with fail
        refine (max_any _ _ _ (FX.out.drewN _)).mono ?_
        rintro e w' ⟨mo, rfl, rfl, hg3⟩
        have G3 := Lib.hid hg3
        clear hg3
        obtain ⟨a9, c9, rfl⟩ := own_shape' hX.out
        go_wp2
        go_loop [14, 15] (fun t i => ∃ j : Nat, j ≤ zs.length ∧ j ≤ 30 ∧ i = .int .i64 j ∧ t = .int .i64 ((whole30 zs).take j).sum) (fun _ i => zs.length - (intOf i).toNat)
        case atStart => exact ⟨0, Nat.zero_le _, Nat.zero_le _, rfl, rfl⟩
        case round =>
          obtain ⟨j, hj, hj3, rfl, rfl⟩ := hrel
          by_cases hjl : j < zs.length ∧ j < 30
          · obtain ⟨hjl1, hjl4⟩ := hjl
            obtain ⟨b, off, rfl, hb, hcell0⟩ := hC.out j hjl1
            have hcell : wr.cell? ⟨b, off + j, none⟩ = some (.int .i64 (zs.getD j 0)) := (hnwr.cell (by have := hB.out; simp; omega)).trans hcell0
            have hts := Lib.hid (whole30_snoc zs j hjl1 hjl4)
            have hbd := part30_bound zs j
            clear hcell0 hb o1 hcv1
            generalize hXX : zs.getD j 0 = z at *
            generalize hYY : ((whole30 zs).take j).sum = d at *
            have hYh := Lib.hid hYY
            clear hXX hYY
            have hm0 : 0 ≤ z % 65536 := by omega
            have hm1 : z % 65536 < 65536 := by omega
            go_wp2
            go_round
            case rel => exact ⟨j + 1, by omega, by omega, by go_num, by rw [hts.out, List.sum_append, hYh.out, List.sum_singleton]⟩
            case measure => simp [intOf]; omega
          · have hfj : Hid ((whole30 zs).take j = whole30 zs) := Lib.hid (List.take_of_length_le (by rw [whole30_len]; omega))
            rw [hfj.out]
            have hjl2 : ¬ j < zs.length ∨ (j < zs.length ∧ ¬ j < 30) := by omega
            clear hjl hfj hand
            by_cases hx0 : xs = []
            · obtain rfl : lo = 9218868437227405312 := by have := G2.out.2; rw [hx0] at this; exact this
              obtain rfl : mo = 18442240474082181120 := by have := G3.out.2; rw [hx0] at this; exact this
              subst hx0
              rcases hjl2 with hj2 | ⟨hj2, hj4⟩
              all_goals try (exfalso; omega)
              all_goals
                go_wp2_with fail
                refine (copysign_zero _).mono ?_
                rintro e w' ⟨rfl, rfl⟩
                go_wp2_with fail
                refine (sum_any _ _ _ (fsl_one _ _ (by simp) _ (by decide))).mono ?_
                rintro e w' ⟨z0, n9, rfl, rfl, hg9⟩
                rw [sum_negzero] at hg9
                obtain rfl : z0 = 0 := hg9.2
                clear hg9
                go_wp2_with fail
                refine (signbit_zero _).mono ?_
                rintro e w' ⟨rfl, rfl⟩
                go_wp2_with fail
                refine (inf_up _).mono ?_
                rintro e w' ⟨rfl, rfl⟩
                go_wp2_with fail
                refine (inf_down _).mono ?_
                rintro e w' ⟨rfl, rfl⟩
                go_wp2_with fail
                refine (awake_any _).mono ?_
                rintro e w' ⟨rfl, hb⟩
                have HB := Lib.hid hb
                clear hb
                go_wp2
                go_ret
                exact ⟨rfl, (below_drewN ((below_drewN hbel.out _).alloc (by simp; have := hbel.out.size; omega) _) _).trans (HB.out.mono (by have := hbel.out.size; simp; omega))⟩
            · have hl0 : (0 : Int) < (xs.length : Int) := by have := List.length_pos_iff.2 hx0; omega
              have hl1 : 0 < xs.length := by omega
              clear hx0
              rcases hjl2 with hj2 | ⟨hj2, hj4⟩
              all_goals try (exfalso; omega)
              all_goals
                go_wp2_with fail
                refine (copysign_zero _).mono ?_
                rintro e w' ⟨rfl, rfl⟩
                go_wp2_with fail
                refine (sum_any _ _ _ (fsl_one _ _ (by simp) _ (by decide))).mono ?_
                rintro e w' ⟨z0, n9, rfl, rfl, hg9⟩
                rw [sum_negzero] at hg9
                obtain rfl : z0 = 0 := hg9.2
                clear hg9
                go_wp2_with fail
                refine (signbit_zero _).mono ?_
                rintro e w' ⟨rfl, rfl⟩
                go_wp2_with fail
                refine (awake_any _).mono ?_
                rintro e w' ⟨rfl, hb⟩
                have HB := Lib.hid hb
                clear hb
                go_wp2
                go_ret
                exact ⟨rfl, (below_drewN ((below_drewN hbel.out _).alloc (by simp; have := hbel.out.size; omega) _) _).trans (HB.out.mono (by have := hbel.out.size; simp; omega))⟩

set_option maxRecDepth 100000 in
set_option maxHeartbeats 6400000 in
theorem edges_d (a : Option Addr) (cap : Nat) (zs : List Int) (w : World) (hz : Ins .i64 w a zs) :
    Calls Try.prog 4 #[.slice a zs.length cap, .bool false, .bool false, .bool true] w fun e w' => e = .returned (.bool true) ∧ Below w.heap.size w w' := by
  obtain ⟨hlen, _, hc⟩ := hz
  unfold maxLen at hlen
  have hC := Lib.hid hc
  clear hc
  obtain ⟨i0, hi, hq0, hq1, hq2⟩ := info_parts Try.info24
  have hand := and16
  have hcv := enc_floatOfInt
  obtain ⟨B, hB⟩ : ∃ B, Hid (B = w.heap.size) := ⟨_, rfl⟩
  have hBle : B ≤ w.heap.size := by have := hB.out; omega
  go_enter Try.func4, Try.ntmps4
  go_wp2
  go_loopw [9, 10] (fun x i wr => EdRel zs w B x i wr) (fun _ i _ => zs.length - (intOf i).toNat)
  case atStart => exact ⟨0, Nat.zero_le _, Nat.zero_le _, rfl, by rw [List.take_zero]; exact own_nil _ _, Below.refl _ _⟩
  case round =>
    obtain ⟨k, hk, hk3, rfl, hown, hnwr⟩ := hrel
    have hX := Lib.hid hown
    have hszwr := hnwr.size
    clear hown
    by_cases hlt : k < zs.length ∧ k < 30
    · obtain ⟨hlt1, hlt4⟩ := hlt
      obtain ⟨b, off, rfl, hb, hcell0⟩ := hC.out k hlt1
      have hcell : wr.cell? ⟨b, off + k, none⟩ = some (.int .i64 (zs.getD k 0)) := (hnwr.cell (by have := hB.out; simp; omega)).trans hcell0
      have hts := Lib.hid (whole30_snoc zs k hlt1 hlt4)
      have hxl : Hid ((((whole30 zs).take k).map enc).length ≤ 40) := Lib.hid (by simp; omega)
      clear hcell0 hb
      generalize hXX : zs.getD k 0 = z at *
      obtain ⟨qs, hQ⟩ : ∃ qs, Hid (((whole30 zs).take k).map enc = qs) := ⟨_, rfl⟩
      rw [hQ.out] at hX hxl
      clear hXX
      have hm0 : 0 ≤ z % 65536 := by omega
      have hm1 : z % 65536 < 65536 := by omega
      go_wp2_with (at_builtin; refine wpList_append_fl rfl _ _ rfl B i0 hi hq0 hq1 hq2 _ qs rfl (hX.out.alloc _) ⟨wr.heap.size, 0, none⟩ 1 (enc (z % 65536)) rfl ?c1 ?c2 ?c3 ?_)
      case c1 => simp
      case c2 => have := hxl.out; simp; omega
      case c3 => simp; omega
      intro vw1 w1 hxw1 hgw1 _
      have hnw1 := app_one hnwr hBle hX.out hgw1
      have Hw1 := Lib.hid hxw1
      have hszw1 := hnw1.size
      clear hxw1 hgw1
      clear hX hcell
      go_wp2
      go_roundw
      case rel => exact ⟨k + 1, by omega, by omega, by go_num, by rw [hts.out, List.map_append, hQ.out]; exact Hw1.out, hnw1⟩
      case measure => simp [intOf]; omega
    · have hfull : Hid ((whole30 zs).take k = whole30 zs) := Lib.hid (List.take_of_length_le (by rw [whole30_len]; omega))
      rw [hfull.out] at hX
      have hsm := Lib.hid (whole30_small zs)
      have hlt2 : ¬ k < zs.length ∨ (k < zs.length ∧ ¬ k < 30) := by omega
      have hln := Lib.hid (whole30_len zs)
      clear hlt hfull
      obtain ⟨xs, hxs⟩ : ∃ xs, Hid ((whole30 zs).map enc = xs) := ⟨_, rfl⟩
      have hxl : Hid (xs.length ≤ 30) := Lib.hid (by rw [← hxs.out, List.length_map, hln.out]; omega)
      rw [hxs.out] at hX
      have hNx : Hid (Nums xs) := Lib.hid (by rw [← hxs.out]; exact nums_enc hsm.out)
      rcases hlt2 with hlt2 | ⟨hlt2, hlt3⟩
      all_goals
        have hwd0 : ∀ x ∈ xs, x < 18446744073709551616 := by
          intro x hx
          have hN := fun y hy => (hNx.out y hy).1
          skip
          skip
          all_goals first | exact hN _ hx | omega
        have FS := Lib.hid (own_fsl hX.out hwd0 (by have := hxl.out; simp; omega))
        have hblt := Lib.hid (own_block_lt hX.out)
        have hl9 : Hid ((xs).length ≤ 40) := Lib.hid (by have := hxl.out; simp; omega)
        clear hwd0
        obtain ⟨L, hLd⟩ : ∃ L, Hid (xs = L) := ⟨_, Lib.hid rfl⟩
        rw [hLd.out] at FS hl9 hX
        obtain ⟨a9, c9, rfl⟩ := own_shape' hX.out
        go_wp2_with fail
        refine (inf_down _).mono ?_
        rintro e w' ⟨rfl, rfl⟩
        go_wp2_with (at_builtin; refine wpList_append_pre rfl _ _ rfl B i0 hi hq0 hq1 hq2 wr.heap.size 18442240474082181120 rfl (own_fresh wr B 18442240474082181120 wr.heap.size rfl (by omega)) _ L rfl ((FS.out.later ((Below.refl _ _).alloc (Nat.le_refl _) _))) ?d2 ?d3 ?_)
        case d2 => have := hl9.out; omega
        case d3 => simp; omega
        intro vwd wd hxwd hgwd
        have hnwd : Below B w wd := (hnwr.alloc (by omega) _).grown hgwd (by simp; omega) (fun k hk => by cases hk; omega)
        have Hwd := Lib.hid hxwd
        have hszwd := hnwd.size
        clear hxwd hgwd
        rw [← hLd.out] at Hwd
        have hwd : ∀ x ∈ (18442240474082181120 :: xs), x < 18446744073709551616 := by
          intro x hx
          have hN := fun y hy => (hNx.out y hy).1
          simp at hx
          rcases hx with rfl | hx
          all_goals first | exact hN _ hx | omega
        have FX := Lib.hid (own_fsl Hwd.out hwd (by have := hxl.out; simp; omega))
        have hbel : Hid (Below w.heap.size w wd) := Lib.hid (by rw [← hB.out]; exact hnwd)
        have S1 : Hid (sumO (18442240474082181120 :: xs) = some 18442240474082181120) := Lib.hid (by rw [← hxs.out]; exact sum_down hsm.out)
        have M1 : Hid (bestO (-1) posInf (18442240474082181120 :: xs) = some 18442240474082181120) := Lib.hid (min_down hNx.out)
        have hp := order_posInf
        have hng := order_negInf
        clear hwd hcv
        go_wp2_with fail
        refine (sum_any _ _ _ FX.out).mono ?_
        rintro e w' ⟨s, n1, rfl, rfl, hg1⟩
        rw [S1.out] at hg1
        obtain rfl := hg1.2
        clear hg1
        go_wp2_with fail
        refine (min_any _ _ _ (FX.out.drewN _)).mono ?_
        rintro e w' ⟨lo, rfl, rfl, hg2⟩
        rw [M1.out] at hg2
        obtain rfl := hg2.2
        clear hg2
        go_wp2_with fail
        refine (max_any _ _ _ (FX.out.drewN _)).mono ?_
        rintro e w' ⟨mo, rfl, rfl, hg3⟩
        have G3 := Lib.hid hg3
        clear hg3
        go_wp2_with fail
        refine (inf_down _).mono ?_
        rintro e w' ⟨rfl, rfl⟩
        go_wp2_with fail
        refine (awake_any _).mono ?_
        rintro e w' ⟨rfl, hb⟩
        have HB := Lib.hid hb
        clear hb
        go_wp2
        go_ret
        exact ⟨rfl, (below_drewN hbel.out _).trans (HB.out.mono (by have := hbel.out.size; simpa using this))⟩

set_option maxRecDepth 100000 in
set_option maxHeartbeats 6400000 in
theorem edges_u (a : Option Addr) (cap : Nat) (zs : List Int) (w : World) (hz : Ins .i64 w a zs) :
    Calls Try.prog 4 #[.slice a zs.length cap, .bool false, .bool true, .bool false] w fun e w' => e = .returned (.bool true) ∧ Below w.heap.size w w' := by
  obtain ⟨hlen, _, hc⟩ := hz
  unfold maxLen at hlen
  have hC := Lib.hid hc
  clear hc
  obtain ⟨i0, hi, hq0, hq1, hq2⟩ := info_parts Try.info24
  have hand := and16
  have hcv := enc_floatOfInt
  obtain ⟨B, hB⟩ : ∃ B, Hid (B = w.heap.size) := ⟨_, rfl⟩
  have hBle : B ≤ w.heap.size := by have := hB.out; omega
  go_enter Try.func4, Try.ntmps4
  go_wp2
  go_loopw [9, 10] (fun x i wr => EdRel zs w B x i wr) (fun _ i _ => zs.length - (intOf i).toNat)
  case atStart => exact ⟨0, Nat.zero_le _, Nat.zero_le _, rfl, by rw [List.take_zero]; exact own_nil _ _, Below.refl _ _⟩
  case round =>
    obtain ⟨k, hk, hk3, rfl, hown, hnwr⟩ := hrel
    have hX := Lib.hid hown
    have hszwr := hnwr.size
    clear hown
    by_cases hlt : k < zs.length ∧ k < 30
    · obtain ⟨hlt1, hlt4⟩ := hlt
      obtain ⟨b, off, rfl, hb, hcell0⟩ := hC.out k hlt1
      have hcell : wr.cell? ⟨b, off + k, none⟩ = some (.int .i64 (zs.getD k 0)) := (hnwr.cell (by have := hB.out; simp; omega)).trans hcell0
      have hts := Lib.hid (whole30_snoc zs k hlt1 hlt4)
      have hxl : Hid ((((whole30 zs).take k).map enc).length ≤ 40) := Lib.hid (by simp; omega)
      clear hcell0 hb
      generalize hXX : zs.getD k 0 = z at *
      obtain ⟨qs, hQ⟩ : ∃ qs, Hid (((whole30 zs).take k).map enc = qs) := ⟨_, rfl⟩
      rw [hQ.out] at hX hxl
      clear hXX
      have hm0 : 0 ≤ z % 65536 := by omega
      have hm1 : z % 65536 < 65536 := by omega
      go_wp2_with (at_builtin; refine wpList_append_fl rfl _ _ rfl B i0 hi hq0 hq1 hq2 _ qs rfl (hX.out.alloc _) ⟨wr.heap.size, 0, none⟩ 1 (enc (z % 65536)) rfl ?c1 ?c2 ?c3 ?_)
      case c1 => simp
      case c2 => have := hxl.out; simp; omega
      case c3 => simp; omega
      intro vw1 w1 hxw1 hgw1 _
      have hnw1 := app_one hnwr hBle hX.out hgw1
      have Hw1 := Lib.hid hxw1
      have hszw1 := hnw1.size
      clear hxw1 hgw1
      clear hX hcell
      go_wp2
      go_roundw
      case rel => exact ⟨k + 1, by omega, by omega, by go_num, by rw [hts.out, List.map_append, hQ.out]; exact Hw1.out, hnw1⟩
      case measure => simp [intOf]; omega
    · have hfull : Hid ((whole30 zs).take k = whole30 zs) := Lib.hid (List.take_of_length_le (by rw [whole30_len]; omega))
      rw [hfull.out] at hX
      have hsm := Lib.hid (whole30_small zs)
      have hlt2 : ¬ k < zs.length ∨ (k < zs.length ∧ ¬ k < 30) := by omega
      have hln := Lib.hid (whole30_len zs)
      clear hlt hfull
      obtain ⟨xs, hxs⟩ : ∃ xs, Hid ((whole30 zs).map enc = xs) := ⟨_, rfl⟩
      have hxl : Hid (xs.length ≤ 30) := Lib.hid (by rw [← hxs.out, List.length_map, hln.out]; omega)
      rw [hxs.out] at hX
      have hNx : Hid (Nums xs) := Lib.hid (by rw [← hxs.out]; exact nums_enc hsm.out)
      rcases hlt2 with hlt2 | ⟨hlt2, hlt3⟩
      all_goals
        go_wp2_with fail
        refine (inf_up _).mono ?_
        rintro e w' ⟨rfl, rfl⟩
        go_wp2_with (at_builtin; refine wpList_append_fl rfl _ _ rfl B i0 hi hq0 hq1 hq2 _ xs rfl (hX.out.alloc _) ⟨wr.heap.size, 0, none⟩ 1 9218868437227405312 rfl ?u1 ?u2 ?u3 ?_)
        case u1 => simp
        case u2 => have := hxl.out; simp; omega
        case u3 => simp; omega
        intro vwu wu hxwu hgwu _
        have hnwu := app_one hnwr hBle hX.out hgwu
        have Hwu := Lib.hid hxwu
        have hszwu := hnwu.size
        clear hxwu hgwu
        have hwd : ∀ x ∈ (xs ++ [9218868437227405312]), x < 18446744073709551616 := by
          intro x hx
          have hN := fun y hy => (hNx.out y hy).1
          simp at hx
          rcases hx with hx | rfl
          all_goals first | exact hN _ hx | omega
        have FX := Lib.hid (own_fsl Hwu.out hwd (by have := hxl.out; simp; omega))
        have hbel : Hid (Below w.heap.size w wu) := Lib.hid (by rw [← hB.out]; exact hnwu)
        have S1 : Hid (sumO (xs ++ [9218868437227405312]) = some 9218868437227405312) := Lib.hid (by rw [← hxs.out]; exact sum_up hsm.out)
        have M2 : Hid (bestO 1 negInf (xs ++ [9218868437227405312]) = some 9218868437227405312) := Lib.hid (max_up hNx.out)
        have hp := order_posInf
        have hng := order_negInf
        clear hwd hcv
        go_wp2_with fail
        refine (sum_any _ _ _ FX.out).mono ?_
        rintro e w' ⟨s, n1, rfl, rfl, hg1⟩
        rw [S1.out] at hg1
        obtain rfl := hg1.2
        clear hg1
        go_wp2_with fail
        refine (min_any _ _ _ (FX.out.drewN _)).mono ?_
        rintro e w' ⟨lo, rfl, rfl, hg2⟩
        have G2 := Lib.hid hg2
        clear hg2
        go_wp2_with fail
        refine (max_any _ _ _ (FX.out.drewN _)).mono ?_
        rintro e w' ⟨mo, rfl, rfl, hg3⟩
        rw [M2.out] at hg3
        obtain rfl := hg3.2
        clear hg3
        go_wp2_with fail
        refine (inf_up _).mono ?_
        rintro e w' ⟨rfl, rfl⟩
        go_wp2_with fail
        refine (awake_any _).mono ?_
        rintro e w' ⟨rfl, hb⟩
        have HB := Lib.hid hb
        clear hb
        go_wp2
        go_ret
        exact ⟨rfl, (below_drewN hbel.out _).trans (HB.out.mono (by have := hbel.out.size; simpa using this))⟩

set_option maxRecDepth 100000 in
set_option maxHeartbeats 6400000 in
theorem edges_ud (a : Option Addr) (cap : Nat) (zs : List Int) (w : World) (hz : Ins .i64 w a zs) :
    Calls Try.prog 4 #[.slice a zs.length cap, .bool false, .bool true, .bool true] w fun e w' => e = .returned (.bool true) ∧ Below w.heap.size w w' := by
  obtain ⟨hlen, _, hc⟩ := hz
  unfold maxLen at hlen
  have hC := Lib.hid hc
  clear hc
  obtain ⟨i0, hi, hq0, hq1, hq2⟩ := info_parts Try.info24
  have hand := and16
  have hcv := enc_floatOfInt
  obtain ⟨B, hB⟩ : ∃ B, Hid (B = w.heap.size) := ⟨_, rfl⟩
  have hBle : B ≤ w.heap.size := by have := hB.out; omega
  go_enter Try.func4, Try.ntmps4
  go_wp2
  go_loopw [9, 10] (fun x i wr => EdRel zs w B x i wr) (fun _ i _ => zs.length - (intOf i).toNat)
  case atStart => exact ⟨0, Nat.zero_le _, Nat.zero_le _, rfl, by rw [List.take_zero]; exact own_nil _ _, Below.refl _ _⟩
  case round =>
    obtain ⟨k, hk, hk3, rfl, hown, hnwr⟩ := hrel
    have hX := Lib.hid hown
    have hszwr := hnwr.size
    clear hown
    by_cases hlt : k < zs.length ∧ k < 30
    · obtain ⟨hlt1, hlt4⟩ := hlt
      obtain ⟨b, off, rfl, hb, hcell0⟩ := hC.out k hlt1
      have hcell : wr.cell? ⟨b, off + k, none⟩ = some (.int .i64 (zs.getD k 0)) := (hnwr.cell (by have := hB.out; simp; omega)).trans hcell0
      have hts := Lib.hid (whole30_snoc zs k hlt1 hlt4)
      have hxl : Hid ((((whole30 zs).take k).map enc).length ≤ 40) := Lib.hid (by simp; omega)
      clear hcell0 hb
      generalize hXX : zs.getD k 0 = z at *
      obtain ⟨qs, hQ⟩ : ∃ qs, Hid (((whole30 zs).take k).map enc = qs) := ⟨_, rfl⟩
      rw [hQ.out] at hX hxl
      clear hXX
      have hm0 : 0 ≤ z % 65536 := by omega
      have hm1 : z % 65536 < 65536 := by omega
      go_wp2_with (at_builtin; refine wpList_append_fl rfl _ _ rfl B i0 hi hq0 hq1 hq2 _ qs rfl (hX.out.alloc _) ⟨wr.heap.size, 0, none⟩ 1 (enc (z % 65536)) rfl ?c1 ?c2 ?c3 ?_)
      case c1 => simp
      case c2 => have := hxl.out; simp; omega
      case c3 => simp; omega
      intro vw1 w1 hxw1 hgw1 _
      have hnw1 := app_one hnwr hBle hX.out hgw1
      have Hw1 := Lib.hid hxw1
      have hszw1 := hnw1.size
      clear hxw1 hgw1
      clear hX hcell
      go_wp2
      go_roundw
      case rel => exact ⟨k + 1, by omega, by omega, by go_num, by rw [hts.out, List.map_append, hQ.out]; exact Hw1.out, hnw1⟩
      case measure => simp [intOf]; omega
    · have hfull : Hid ((whole30 zs).take k = whole30 zs) := Lib.hid (List.take_of_length_le (by rw [whole30_len]; omega))
      rw [hfull.out] at hX
      have hsm := Lib.hid (whole30_small zs)
      have hlt2 : ¬ k < zs.length ∨ (k < zs.length ∧ ¬ k < 30) := by omega
      have hln := Lib.hid (whole30_len zs)
      clear hlt hfull
      obtain ⟨xs, hxs⟩ : ∃ xs, Hid ((whole30 zs).map enc = xs) := ⟨_, rfl⟩
      have hxl : Hid (xs.length ≤ 30) := Lib.hid (by rw [← hxs.out, List.length_map, hln.out]; omega)
      rw [hxs.out] at hX
      have hNx : Hid (Nums xs) := Lib.hid (by rw [← hxs.out]; exact nums_enc hsm.out)
      rcases hlt2 with hlt2 | ⟨hlt2, hlt3⟩
      all_goals
        go_wp2_with fail
        refine (inf_up _).mono ?_
        rintro e w' ⟨rfl, rfl⟩
        go_wp2_with (at_builtin; refine wpList_append_fl rfl _ _ rfl B i0 hi hq0 hq1 hq2 _ xs rfl (hX.out.alloc _) ⟨wr.heap.size, 0, none⟩ 1 9218868437227405312 rfl ?u1 ?u2 ?u3 ?_)
        case u1 => simp
        case u2 => have := hxl.out; simp; omega
        case u3 => simp; omega
        intro vwu wu hxwu hgwu _
        have hnwu := app_one hnwr hBle hX.out hgwu
        have Hwu := Lib.hid hxwu
        have hszwu := hnwu.size
        clear hxwu hgwu
        have hwd0 : ∀ x ∈ (xs ++ [9218868437227405312]), x < 18446744073709551616 := by
          intro x hx
          have hN := fun y hy => (hNx.out y hy).1
          simp at hx
          rcases hx with hx | rfl
          all_goals first | exact hN _ hx | omega
        have FS := Lib.hid (own_fsl Hwu.out hwd0 (by have := hxl.out; simp; omega))
        have hblt := Lib.hid (own_block_lt Hwu.out)
        have hl9 : Hid (((xs ++ [9218868437227405312])).length ≤ 40) := Lib.hid (by have := hxl.out; simp; omega)
        clear hwd0
        obtain ⟨L, hLd⟩ : ∃ L, Hid ((xs ++ [9218868437227405312]) = L) := ⟨_, Lib.hid rfl⟩
        rw [hLd.out] at FS hl9 Hwu
        obtain ⟨a9, c9, rfl⟩ := own_shape' Hwu.out
        go_wp2_with fail
        refine (inf_down _).mono ?_
        rintro e w' ⟨rfl, rfl⟩
        go_wp2_with (at_builtin; refine wpList_append_pre rfl _ _ rfl B i0 hi hq0 hq1 hq2 wu.heap.size 18442240474082181120 rfl (own_fresh wu B 18442240474082181120 wu.heap.size rfl (by omega)) _ L rfl ((FS.out.later ((Below.refl _ _).alloc (Nat.le_refl _) _))) ?d2 ?d3 ?_)
        case d2 => have := hl9.out; omega
        case d3 => simp; omega
        intro vwd wd hxwd hgwd
        have hnwd : Below B w wd := (hnwu.alloc (by omega) _).grown hgwd (by simp; omega) (fun k hk => by cases hk; omega)
        have Hwd := Lib.hid hxwd
        have hszwd := hnwd.size
        clear hxwd hgwd
        rw [← hLd.out] at Hwd
        have hwd : ∀ x ∈ (18442240474082181120 :: (xs ++ [9218868437227405312])), x < 18446744073709551616 := by
          intro x hx
          have hN := fun y hy => (hNx.out y hy).1
          simp at hx
          rcases hx with rfl | hx | rfl
          all_goals first | exact hN _ hx | omega
        have FX := Lib.hid (own_fsl Hwd.out hwd (by have := hxl.out; simp; omega))
        have hbel : Hid (Below w.heap.size w wd) := Lib.hid (by rw [← hB.out]; exact hnwd)
        have S1 : Hid (sumO (18442240474082181120 :: (xs ++ [9218868437227405312])) = none) := Lib.hid (by rw [← hxs.out]; exact sum_both hsm.out)
        have M1 : Hid (bestO (-1) posInf (18442240474082181120 :: (xs ++ [9218868437227405312])) = some 18442240474082181120) := Lib.hid (min_down (by intro x hx; rcases List.mem_append.1 hx with hx | hx; exact hNx.out x hx; obtain rfl := List.mem_singleton.1 hx; exact ⟨posInf_lt, nan_posInf⟩))
        have M2 : Hid (bestO 1 negInf (18442240474082181120 :: (xs ++ [9218868437227405312])) = some 9218868437227405312) := Lib.hid (max_up (xs := negInf :: xs) (by intro x hx; rcases List.mem_cons.1 hx with rfl | hx; exact ⟨negInf_lt, nan_negInf⟩; exact hNx.out x hx))
        have hp := order_posInf
        have hng := order_negInf
        clear hwd hcv
        go_wp2_with fail
        refine (sum_any _ _ _ FX.out).mono ?_
        rintro e w' ⟨s, n1, rfl, rfl, hg1⟩
        rw [S1.out] at hg1
        have hs : (FloatKind.f64.format.order s s != some .eq) = true := by rw [neq_self, nanB_true hg1.2]
        clear hg1
        go_wp2_with fail
        refine (min_any _ _ _ (FX.out.drewN _)).mono ?_
        rintro e w' ⟨lo, rfl, rfl, hg2⟩
        rw [M1.out] at hg2
        obtain rfl := hg2.2
        clear hg2
        go_wp2_with fail
        refine (max_any _ _ _ (FX.out.drewN _)).mono ?_
        rintro e w' ⟨mo, rfl, rfl, hg3⟩
        rw [M2.out] at hg3
        obtain rfl := hg3.2
        clear hg3
        go_wp2_with fail
        refine (inf_down _).mono ?_
        rintro e w' ⟨rfl, rfl⟩
        go_wp2_with fail
        refine (inf_up _).mono ?_
        rintro e w' ⟨rfl, rfl⟩
        go_wp2_with fail
        refine (awake_any _).mono ?_
        rintro e w' ⟨rfl, hb⟩
        have HB := Lib.hid hb
        clear hb
        go_wp2
        go_ret
        exact ⟨rfl, (below_drewN hbel.out _).trans (HB.out.mono (by have := hbel.out.size; simpa using this))⟩

set_option maxRecDepth 100000 in
set_option maxHeartbeats 6400000 in
theorem edges_n (a : Option Addr) (cap : Nat) (zs : List Int) (w : World) (hz : Ins .i64 w a zs) :
    Calls Try.prog 4 #[.slice a zs.length cap, .bool true, .bool false, .bool false] w fun e w' => e = .returned (.bool true) ∧ Below w.heap.size w w' := by
  obtain ⟨hlen, _, hc⟩ := hz
  unfold maxLen at hlen
  have hC := Lib.hid hc
  clear hc
  obtain ⟨i0, hi, hq0, hq1, hq2⟩ := info_parts Try.info24
  have hand := and16
  have hcv := enc_floatOfInt
  obtain ⟨B, hB⟩ : ∃ B, Hid (B = w.heap.size) := ⟨_, rfl⟩
  have hBle : B ≤ w.heap.size := by have := hB.out; omega
  go_enter Try.func4, Try.ntmps4
  go_wp2
  go_loopw [9, 10] (fun x i wr => EdRel zs w B x i wr) (fun _ i _ => zs.length - (intOf i).toNat)
  case atStart => exact ⟨0, Nat.zero_le _, Nat.zero_le _, rfl, by rw [List.take_zero]; exact own_nil _ _, Below.refl _ _⟩
  case round =>
    obtain ⟨k, hk, hk3, rfl, hown, hnwr⟩ := hrel
    have hX := Lib.hid hown
    have hszwr := hnwr.size
    clear hown
    by_cases hlt : k < zs.length ∧ k < 30
    · obtain ⟨hlt1, hlt4⟩ := hlt
      obtain ⟨b, off, rfl, hb, hcell0⟩ := hC.out k hlt1
      have hcell : wr.cell? ⟨b, off + k, none⟩ = some (.int .i64 (zs.getD k 0)) := (hnwr.cell (by have := hB.out; simp; omega)).trans hcell0
      have hts := Lib.hid (whole30_snoc zs k hlt1 hlt4)
      have hxl : Hid ((((whole30 zs).take k).map enc).length ≤ 40) := Lib.hid (by simp; omega)
      clear hcell0 hb
      generalize hXX : zs.getD k 0 = z at *
      obtain ⟨qs, hQ⟩ : ∃ qs, Hid (((whole30 zs).take k).map enc = qs) := ⟨_, rfl⟩
      rw [hQ.out] at hX hxl
      clear hXX
      have hm0 : 0 ≤ z % 65536 := by omega
      have hm1 : z % 65536 < 65536 := by omega
      go_wp2_with (at_builtin; refine wpList_append_fl rfl _ _ rfl B i0 hi hq0 hq1 hq2 _ qs rfl (hX.out.alloc _) ⟨wr.heap.size, 0, none⟩ 1 (enc (z % 65536)) rfl ?c1 ?c2 ?c3 ?_)
      case c1 => simp
      case c2 => have := hxl.out; simp; omega
      case c3 => simp; omega
      intro vw1 w1 hxw1 hgw1 _
      have hnw1 := app_one hnwr hBle hX.out hgw1
      have Hw1 := Lib.hid hxw1
      have hszw1 := hnw1.size
      clear hxw1 hgw1
      clear hX hcell
      go_wp2
      go_roundw
      case rel => exact ⟨k + 1, by omega, by omega, by go_num, by rw [hts.out, List.map_append, hQ.out]; exact Hw1.out, hnw1⟩
      case measure => simp [intOf]; omega
    · have hfull : Hid ((whole30 zs).take k = whole30 zs) := Lib.hid (List.take_of_length_le (by rw [whole30_len]; omega))
      rw [hfull.out] at hX
      have hsm := Lib.hid (whole30_small zs)
      have hlt2 : ¬ k < zs.length ∨ (k < zs.length ∧ ¬ k < 30) := by omega
      have hln := Lib.hid (whole30_len zs)
      clear hlt hfull
      obtain ⟨xs, hxs⟩ : ∃ xs, Hid ((whole30 zs).map enc = xs) := ⟨_, rfl⟩
      have hxl : Hid (xs.length ≤ 30) := Lib.hid (by rw [← hxs.out, List.length_map, hln.out]; omega)
      rw [hxs.out] at hX
      have hNx : Hid (Nums xs) := Lib.hid (by rw [← hxs.out]; exact nums_enc hsm.out)
      rcases hlt2 with hlt2 | ⟨hlt2, hlt3⟩
      all_goals
        go_wp2_with fail
        refine (nan_any _).mono ?_
        rintro e w' ⟨rfl, rfl⟩
        go_wp2_with (at_builtin; refine wpList_append_fl rfl _ _ rfl B i0 hi hq0 hq1 hq2 _ xs rfl (hX.out.alloc _) ⟨wr.heap.size, 0, none⟩ 1 9221120237041090561 rfl ?n1 ?n2 ?n3 ?_)
        case n1 => simp
        case n2 => have := hxl.out; simp; omega
        case n3 => simp; omega
        intro vwn wn hxwn hgwn _
        have hnwn := app_one hnwr hBle hX.out hgwn
        have Hwn := Lib.hid hxwn
        have hszwn := hnwn.size
        clear hxwn hgwn
        have hwd : ∀ x ∈ (xs ++ [9221120237041090561]), x < 18446744073709551616 := by
          intro x hx
          have hN := fun y hy => (hNx.out y hy).1
          simp at hx
          rcases hx with hx | rfl
          all_goals first | exact hN _ hx | omega
        have FX := Lib.hid (own_fsl Hwn.out hwd (by have := hxl.out; simp; omega))
        have hbel : Hid (Below w.heap.size w wn) := Lib.hid (by rw [← hB.out]; exact hnwn)
        have S1 : Hid (sumO (xs ++ [9221120237041090561]) = none) := Lib.hid (sumO_nan nan_nan (by simp))
        have M1 : Hid (bestO (-1) posInf (xs ++ [9221120237041090561]) = none) := Lib.hid (bestO_nan _ _ nan_nan (by simp))
        have M2 : Hid (bestO 1 negInf (xs ++ [9221120237041090561]) = none) := Lib.hid (bestO_nan _ _ nan_nan (by simp))
        have hp := order_posInf
        have hng := order_negInf
        clear hwd hcv
        go_wp2_with fail
        refine (sum_any _ _ _ FX.out).mono ?_
        rintro e w' ⟨s, n1, rfl, rfl, hg1⟩
        rw [S1.out] at hg1
        have hs : (FloatKind.f64.format.order s s != some .eq) = true := by rw [neq_self, nanB_true hg1.2]
        clear hg1
        go_wp2_with fail
        refine (min_any _ _ _ (FX.out.drewN _)).mono ?_
        rintro e w' ⟨lo, rfl, rfl, hg2⟩
        rw [M1.out] at hg2
        have hlo : (FloatKind.f64.format.order lo lo != some .eq) = true := by rw [neq_self, nanB_true hg2.2]
        clear hg2
        go_wp2_with fail
        refine (max_any _ _ _ (FX.out.drewN _)).mono ?_
        rintro e w' ⟨mo, rfl, rfl, hg3⟩
        rw [M2.out] at hg3
        have hmo : (FloatKind.f64.format.order mo mo != some .eq) = true := by rw [neq_self, nanB_true hg3.2]
        clear hg3
        go_wp2_with fail
        refine (awake_any _).mono ?_
        rintro e w' ⟨rfl, hb⟩
        have HB := Lib.hid hb
        clear hb
        go_wp2
        go_ret
        exact ⟨rfl, (below_drewN hbel.out _).trans (HB.out.mono (by have := hbel.out.size; simpa using this))⟩

set_option maxRecDepth 100000 in
set_option maxHeartbeats 6400000 in
theorem edges_nd (a : Option Addr) (cap : Nat) (zs : List Int) (w : World) (hz : Ins .i64 w a zs) :
    Calls Try.prog 4 #[.slice a zs.length cap, .bool true, .bool false, .bool true] w fun e w' => e = .returned (.bool true) ∧ Below w.heap.size w w' := by
  obtain ⟨hlen, _, hc⟩ := hz
  unfold maxLen at hlen
  have hC := Lib.hid hc
  clear hc
  obtain ⟨i0, hi, hq0, hq1, hq2⟩ := info_parts Try.info24
  have hand := and16
  have hcv := enc_floatOfInt
  obtain ⟨B, hB⟩ : ∃ B, Hid (B = w.heap.size) := ⟨_, rfl⟩
  have hBle : B ≤ w.heap.size := by have := hB.out; omega
  go_enter Try.func4, Try.ntmps4
  go_wp2
  go_loopw [9, 10] (fun x i wr => EdRel zs w B x i wr) (fun _ i _ => zs.length - (intOf i).toNat)
  case atStart => exact ⟨0, Nat.zero_le _, Nat.zero_le _, rfl, by rw [List.take_zero]; exact own_nil _ _, Below.refl _ _⟩
  case round =>
    obtain ⟨k, hk, hk3, rfl, hown, hnwr⟩ := hrel
    have hX := Lib.hid hown
    have hszwr := hnwr.size
    clear hown
    by_cases hlt : k < zs.length ∧ k < 30
    · obtain ⟨hlt1, hlt4⟩ := hlt
      obtain ⟨b, off, rfl, hb, hcell0⟩ := hC.out k hlt1
      have hcell : wr.cell? ⟨b, off + k, none⟩ = some (.int .i64 (zs.getD k 0)) := (hnwr.cell (by have := hB.out; simp; omega)).trans hcell0
      have hts := Lib.hid (whole30_snoc zs k hlt1 hlt4)
      have hxl : Hid ((((whole30 zs).take k).map enc).length ≤ 40) := Lib.hid (by simp; omega)
      clear hcell0 hb
      generalize hXX : zs.getD k 0 = z at *
      obtain ⟨qs, hQ⟩ : ∃ qs, Hid (((whole30 zs).take k).map enc = qs) := ⟨_, rfl⟩
      rw [hQ.out] at hX hxl
      clear hXX
      have hm0 : 0 ≤ z % 65536 := by omega
      have hm1 : z % 65536 < 65536 := by omega
      go_wp2_with (at_builtin; refine wpList_append_fl rfl _ _ rfl B i0 hi hq0 hq1 hq2 _ qs rfl (hX.out.alloc _) ⟨wr.heap.size, 0, none⟩ 1 (enc (z % 65536)) rfl ?c1 ?c2 ?c3 ?_)
      case c1 => simp
      case c2 => have := hxl.out; simp; omega
      case c3 => simp; omega
      intro vw1 w1 hxw1 hgw1 _
      have hnw1 := app_one hnwr hBle hX.out hgw1
      have Hw1 := Lib.hid hxw1
      have hszw1 := hnw1.size
      clear hxw1 hgw1
      clear hX hcell
      go_wp2
      go_roundw
      case rel => exact ⟨k + 1, by omega, by omega, by go_num, by rw [hts.out, List.map_append, hQ.out]; exact Hw1.out, hnw1⟩
      case measure => simp [intOf]; omega
    · have hfull : Hid ((whole30 zs).take k = whole30 zs) := Lib.hid (List.take_of_length_le (by rw [whole30_len]; omega))
      rw [hfull.out] at hX
      have hsm := Lib.hid (whole30_small zs)
      have hlt2 : ¬ k < zs.length ∨ (k < zs.length ∧ ¬ k < 30) := by omega
      have hln := Lib.hid (whole30_len zs)
      clear hlt hfull
      obtain ⟨xs, hxs⟩ : ∃ xs, Hid ((whole30 zs).map enc = xs) := ⟨_, rfl⟩
      have hxl : Hid (xs.length ≤ 30) := Lib.hid (by rw [← hxs.out, List.length_map, hln.out]; omega)
      rw [hxs.out] at hX
      have hNx : Hid (Nums xs) := Lib.hid (by rw [← hxs.out]; exact nums_enc hsm.out)
      rcases hlt2 with hlt2 | ⟨hlt2, hlt3⟩
      all_goals
        go_wp2_with fail
        refine (nan_any _).mono ?_
        rintro e w' ⟨rfl, rfl⟩
        go_wp2_with (at_builtin; refine wpList_append_fl rfl _ _ rfl B i0 hi hq0 hq1 hq2 _ xs rfl (hX.out.alloc _) ⟨wr.heap.size, 0, none⟩ 1 9221120237041090561 rfl ?n1 ?n2 ?n3 ?_)
        case n1 => simp
        case n2 => have := hxl.out; simp; omega
        case n3 => simp; omega
        intro vwn wn hxwn hgwn _
        have hnwn := app_one hnwr hBle hX.out hgwn
        have Hwn := Lib.hid hxwn
        have hszwn := hnwn.size
        clear hxwn hgwn
        have hwd0 : ∀ x ∈ (xs ++ [9221120237041090561]), x < 18446744073709551616 := by
          intro x hx
          have hN := fun y hy => (hNx.out y hy).1
          simp at hx
          rcases hx with hx | rfl
          all_goals first | exact hN _ hx | omega
        have FS := Lib.hid (own_fsl Hwn.out hwd0 (by have := hxl.out; simp; omega))
        have hblt := Lib.hid (own_block_lt Hwn.out)
        have hl9 : Hid (((xs ++ [9221120237041090561])).length ≤ 40) := Lib.hid (by have := hxl.out; simp; omega)
        clear hwd0
        obtain ⟨L, hLd⟩ : ∃ L, Hid ((xs ++ [9221120237041090561]) = L) := ⟨_, Lib.hid rfl⟩
        rw [hLd.out] at FS hl9 Hwn
        obtain ⟨a9, c9, rfl⟩ := own_shape' Hwn.out
        go_wp2_with fail
        refine (inf_down _).mono ?_
        rintro e w' ⟨rfl, rfl⟩
        go_wp2_with (at_builtin; refine wpList_append_pre rfl _ _ rfl B i0 hi hq0 hq1 hq2 wn.heap.size 18442240474082181120 rfl (own_fresh wn B 18442240474082181120 wn.heap.size rfl (by omega)) _ L rfl ((FS.out.later ((Below.refl _ _).alloc (Nat.le_refl _) _))) ?d2 ?d3 ?_)
        case d2 => have := hl9.out; omega
        case d3 => simp; omega
        intro vwd wd hxwd hgwd
        have hnwd : Below B w wd := (hnwn.alloc (by omega) _).grown hgwd (by simp; omega) (fun k hk => by cases hk; omega)
        have Hwd := Lib.hid hxwd
        have hszwd := hnwd.size
        clear hxwd hgwd
        rw [← hLd.out] at Hwd
        have hwd : ∀ x ∈ (18442240474082181120 :: (xs ++ [9221120237041090561])), x < 18446744073709551616 := by
          intro x hx
          have hN := fun y hy => (hNx.out y hy).1
          simp at hx
          rcases hx with rfl | hx | rfl
          all_goals first | exact hN _ hx | omega
        have FX := Lib.hid (own_fsl Hwd.out hwd (by have := hxl.out; simp; omega))
        have hbel : Hid (Below w.heap.size w wd) := Lib.hid (by rw [← hB.out]; exact hnwd)
        have S1 : Hid (sumO (18442240474082181120 :: (xs ++ [9221120237041090561])) = none) := Lib.hid (sumO_nan nan_nan (by simp))
        have M1 : Hid (bestO (-1) posInf (18442240474082181120 :: (xs ++ [9221120237041090561])) = none) := Lib.hid (bestO_nan _ _ nan_nan (by simp))
        have M2 : Hid (bestO 1 negInf (18442240474082181120 :: (xs ++ [9221120237041090561])) = none) := Lib.hid (bestO_nan _ _ nan_nan (by simp))
        have hp := order_posInf
        have hng := order_negInf
        clear hwd hcv
        go_wp2_with fail
        refine (sum_any _ _ _ FX.out).mono ?_
        rintro e w' ⟨s, n1, rfl, rfl, hg1⟩
        rw [S1.out] at hg1
        have hs : (FloatKind.f64.format.order s s != some .eq) = true := by rw [neq_self, nanB_true hg1.2]
        clear hg1
        go_wp2_with fail
        refine (min_any _ _ _ (FX.out.drewN _)).mono ?_
        rintro e w' ⟨lo, rfl, rfl, hg2⟩
        rw [M1.out] at hg2
        have hlo : (FloatKind.f64.format.order lo lo != some .eq) = true := by rw [neq_self, nanB_true hg2.2]
        clear hg2
        go_wp2_with fail
        refine (max_any _ _ _ (FX.out.drewN _)).mono ?_
        rintro e w' ⟨mo, rfl, rfl, hg3⟩
        rw [M2.out] at hg3
        have hmo : (FloatKind.f64.format.order mo mo != some .eq) = true := by rw [neq_self, nanB_true hg3.2]
        clear hg3
        go_wp2_with fail
        refine (awake_any _).mono ?_
        rintro e w' ⟨rfl, hb⟩
        have HB := Lib.hid hb
        clear hb
        go_wp2
        go_ret
        exact ⟨rfl, (below_drewN hbel.out _).trans (HB.out.mono (by have := hbel.out.size; simpa using this))⟩

set_option maxRecDepth 100000 in
set_option maxHeartbeats 6400000 in
theorem edges_nu (a : Option Addr) (cap : Nat) (zs : List Int) (w : World) (hz : Ins .i64 w a zs) :
    Calls Try.prog 4 #[.slice a zs.length cap, .bool true, .bool true, .bool false] w fun e w' => e = .returned (.bool true) ∧ Below w.heap.size w w' := by
  obtain ⟨hlen, _, hc⟩ := hz
  unfold maxLen at hlen
  have hC := Lib.hid hc
  clear hc
  obtain ⟨i0, hi, hq0, hq1, hq2⟩ := info_parts Try.info24
  have hand := and16
  have hcv := enc_floatOfInt
  obtain ⟨B, hB⟩ : ∃ B, Hid (B = w.heap.size) := ⟨_, rfl⟩
  have hBle : B ≤ w.heap.size := by have := hB.out; omega
  go_enter Try.func4, Try.ntmps4
  go_wp2
  go_loopw [9, 10] (fun x i wr => EdRel zs w B x i wr) (fun _ i _ => zs.length - (intOf i).toNat)
  case atStart => exact ⟨0, Nat.zero_le _, Nat.zero_le _, rfl, by rw [List.take_zero]; exact own_nil _ _, Below.refl _ _⟩
  case round =>
    obtain ⟨k, hk, hk3, rfl, hown, hnwr⟩ := hrel
    have hX := Lib.hid hown
    have hszwr := hnwr.size
    clear hown
    by_cases hlt : k < zs.length ∧ k < 30
    · obtain ⟨hlt1, hlt4⟩ := hlt
      obtain ⟨b, off, rfl, hb, hcell0⟩ := hC.out k hlt1
      have hcell : wr.cell? ⟨b, off + k, none⟩ = some (.int .i64 (zs.getD k 0)) := (hnwr.cell (by have := hB.out; simp; omega)).trans hcell0
      have hts := Lib.hid (whole30_snoc zs k hlt1 hlt4)
      have hxl : Hid ((((whole30 zs).take k).map enc).length ≤ 40) := Lib.hid (by simp; omega)
      clear hcell0 hb
      generalize hXX : zs.getD k 0 = z at *
      obtain ⟨qs, hQ⟩ : ∃ qs, Hid (((whole30 zs).take k).map enc = qs) := ⟨_, rfl⟩
      rw [hQ.out] at hX hxl
      clear hXX
      have hm0 : 0 ≤ z % 65536 := by omega
      have hm1 : z % 65536 < 65536 := by omega
      go_wp2_with (at_builtin; refine wpList_append_fl rfl _ _ rfl B i0 hi hq0 hq1 hq2 _ qs rfl (hX.out.alloc _) ⟨wr.heap.size, 0, none⟩ 1 (enc (z % 65536)) rfl ?c1 ?c2 ?c3 ?_)
      case c1 => simp
      case c2 => have := hxl.out; simp; omega
      case c3 => simp; omega
      intro vw1 w1 hxw1 hgw1 _
      have hnw1 := app_one hnwr hBle hX.out hgw1
      have Hw1 := Lib.hid hxw1
      have hszw1 := hnw1.size
      clear hxw1 hgw1
      clear hX hcell
      go_wp2
      go_roundw
      case rel => exact ⟨k + 1, by omega, by omega, by go_num, by rw [hts.out, List.map_append, hQ.out]; exact Hw1.out, hnw1⟩
      case measure => simp [intOf]; omega
    · have hfull : Hid ((whole30 zs).take k = whole30 zs) := Lib.hid (List.take_of_length_le (by rw [whole30_len]; omega))
      rw [hfull.out] at hX
      have hsm := Lib.hid (whole30_small zs)
      have hlt2 : ¬ k < zs.length ∨ (k < zs.length ∧ ¬ k < 30) := by omega
      have hln := Lib.hid (whole30_len zs)
      clear hlt hfull
      obtain ⟨xs, hxs⟩ : ∃ xs, Hid ((whole30 zs).map enc = xs) := ⟨_, rfl⟩
      have hxl : Hid (xs.length ≤ 30) := Lib.hid (by rw [← hxs.out, List.length_map, hln.out]; omega)
      rw [hxs.out] at hX
      have hNx : Hid (Nums xs) := Lib.hid (by rw [← hxs.out]; exact nums_enc hsm.out)
      rcases hlt2 with hlt2 | ⟨hlt2, hlt3⟩
      all_goals
        go_wp2_with fail
        refine (inf_up _).mono ?_
        rintro e w' ⟨rfl, rfl⟩
        go_wp2_with (at_builtin; refine wpList_append_fl rfl _ _ rfl B i0 hi hq0 hq1 hq2 _ xs rfl (hX.out.alloc _) ⟨wr.heap.size, 0, none⟩ 1 9218868437227405312 rfl ?u1 ?u2 ?u3 ?_)
        case u1 => simp
        case u2 => have := hxl.out; simp; omega
        case u3 => simp; omega
        intro vwu wu hxwu hgwu _
        have hnwu := app_one hnwr hBle hX.out hgwu
        have Hwu := Lib.hid hxwu
        have hszwu := hnwu.size
        clear hxwu hgwu
        go_wp2_with fail
        refine (nan_any _).mono ?_
        rintro e w' ⟨rfl, rfl⟩
        go_wp2_with (at_builtin; refine wpList_append_fl rfl _ _ rfl B i0 hi hq0 hq1 hq2 _ (xs ++ [9218868437227405312]) rfl (Hwu.out.alloc _) ⟨wu.heap.size, 0, none⟩ 1 9221120237041090561 rfl ?n1 ?n2 ?n3 ?_)
        case n1 => simp
        case n2 => have := hxl.out; simp; omega
        case n3 => simp; omega
        intro vwn wn hxwn hgwn _
        have hnwn := app_one hnwu hBle Hwu.out hgwn
        have Hwn := Lib.hid hxwn
        have hszwn := hnwn.size
        clear hxwn hgwn
        have hwd : ∀ x ∈ (xs ++ [9218868437227405312, 9221120237041090561]), x < 18446744073709551616 := by
          intro x hx
          have hN := fun y hy => (hNx.out y hy).1
          simp at hx
          rcases hx with hx | rfl | rfl
          all_goals first | exact hN _ hx | omega
        have FX := Lib.hid (own_fsl Hwn.out hwd (by have := hxl.out; simp; omega))
        have hbel : Hid (Below w.heap.size w wn) := Lib.hid (by rw [← hB.out]; exact hnwn)
        have S1 : Hid (sumO (xs ++ [9218868437227405312, 9221120237041090561]) = none) := Lib.hid (sumO_nan nan_nan (by simp))
        have M1 : Hid (bestO (-1) posInf (xs ++ [9218868437227405312, 9221120237041090561]) = none) := Lib.hid (bestO_nan _ _ nan_nan (by simp))
        have M2 : Hid (bestO 1 negInf (xs ++ [9218868437227405312, 9221120237041090561]) = none) := Lib.hid (bestO_nan _ _ nan_nan (by simp))
        have hp := order_posInf
        have hng := order_negInf
        clear hwd hcv
        go_wp2_with fail
        refine (sum_any _ _ _ FX.out).mono ?_
        rintro e w' ⟨s, n1, rfl, rfl, hg1⟩
        rw [S1.out] at hg1
        have hs : (FloatKind.f64.format.order s s != some .eq) = true := by rw [neq_self, nanB_true hg1.2]
        clear hg1
        go_wp2_with fail
        refine (min_any _ _ _ (FX.out.drewN _)).mono ?_
        rintro e w' ⟨lo, rfl, rfl, hg2⟩
        rw [M1.out] at hg2
        have hlo : (FloatKind.f64.format.order lo lo != some .eq) = true := by rw [neq_self, nanB_true hg2.2]
        clear hg2
        go_wp2_with fail
        refine (max_any _ _ _ (FX.out.drewN _)).mono ?_
        rintro e w' ⟨mo, rfl, rfl, hg3⟩
        rw [M2.out] at hg3
        have hmo : (FloatKind.f64.format.order mo mo != some .eq) = true := by rw [neq_self, nanB_true hg3.2]
        clear hg3
        go_wp2_with fail
        refine (awake_any _).mono ?_
        rintro e w' ⟨rfl, hb⟩
        have HB := Lib.hid hb
        clear hb
        go_wp2
        go_ret
        exact ⟨rfl, (below_drewN hbel.out _).trans (HB.out.mono (by have := hbel.out.size; simpa using this))⟩

set_option maxRecDepth 100000 in
set_option maxHeartbeats 6400000 in
theorem edges_nud (a : Option Addr) (cap : Nat) (zs : List Int) (w : World) (hz : Ins .i64 w a zs) :
    Calls Try.prog 4 #[.slice a zs.length cap, .bool true, .bool true, .bool true] w fun e w' => e = .returned (.bool true) ∧ Below w.heap.size w w' := by
  obtain ⟨hlen, _, hc⟩ := hz
  unfold maxLen at hlen
  have hC := Lib.hid hc
  clear hc
  obtain ⟨i0, hi, hq0, hq1, hq2⟩ := info_parts Try.info24
  have hand := and16
  have hcv := enc_floatOfInt
  obtain ⟨B, hB⟩ : ∃ B, Hid (B = w.heap.size) := ⟨_, rfl⟩
  have hBle : B ≤ w.heap.size := by have := hB.out; omega
  go_enter Try.func4, Try.ntmps4
  go_wp2
  go_loopw [9, 10] (fun x i wr => EdRel zs w B x i wr) (fun _ i _ => zs.length - (intOf i).toNat)
  case atStart => exact ⟨0, Nat.zero_le _, Nat.zero_le _, rfl, by rw [List.take_zero]; exact own_nil _ _, Below.refl _ _⟩
  case round =>
    obtain ⟨k, hk, hk3, rfl, hown, hnwr⟩ := hrel
    have hX := Lib.hid hown
    have hszwr := hnwr.size
    clear hown
    by_cases hlt : k < zs.length ∧ k < 30
    · obtain ⟨hlt1, hlt4⟩ := hlt
      obtain ⟨b, off, rfl, hb, hcell0⟩ := hC.out k hlt1
      have hcell : wr.cell? ⟨b, off + k, none⟩ = some (.int .i64 (zs.getD k 0)) := (hnwr.cell (by have := hB.out; simp; omega)).trans hcell0
      have hts := Lib.hid (whole30_snoc zs k hlt1 hlt4)
      have hxl : Hid ((((whole30 zs).take k).map enc).length ≤ 40) := Lib.hid (by simp; omega)
      clear hcell0 hb
      generalize hXX : zs.getD k 0 = z at *
      obtain ⟨qs, hQ⟩ : ∃ qs, Hid (((whole30 zs).take k).map enc = qs) := ⟨_, rfl⟩
      rw [hQ.out] at hX hxl
      clear hXX
      have hm0 : 0 ≤ z % 65536 := by omega
      have hm1 : z % 65536 < 65536 := by omega
      go_wp2_with (at_builtin; refine wpList_append_fl rfl _ _ rfl B i0 hi hq0 hq1 hq2 _ qs rfl (hX.out.alloc _) ⟨wr.heap.size, 0, none⟩ 1 (enc (z % 65536)) rfl ?c1 ?c2 ?c3 ?_)
      case c1 => simp
      case c2 => have := hxl.out; simp; omega
      case c3 => simp; omega
      intro vw1 w1 hxw1 hgw1 _
      have hnw1 := app_one hnwr hBle hX.out hgw1
      have Hw1 := Lib.hid hxw1
      have hszw1 := hnw1.size
      clear hxw1 hgw1
      clear hX hcell
      go_wp2
      go_roundw
      case rel => exact ⟨k + 1, by omega, by omega, by go_num, by rw [hts.out, List.map_append, hQ.out]; exact Hw1.out, hnw1⟩
      case measure => simp [intOf]; omega
    · have hfull : Hid ((whole30 zs).take k = whole30 zs) := Lib.hid (List.take_of_length_le (by rw [whole30_len]; omega))
      rw [hfull.out] at hX
      have hsm := Lib.hid (whole30_small zs)
      have hlt2 : ¬ k < zs.length ∨ (k < zs.length ∧ ¬ k < 30) := by omega
      have hln := Lib.hid (whole30_len zs)
      clear hlt hfull
      obtain ⟨xs, hxs⟩ : ∃ xs, Hid ((whole30 zs).map enc = xs) := ⟨_, rfl⟩
      have hxl : Hid (xs.length ≤ 30) := Lib.hid (by rw [← hxs.out, List.length_map, hln.out]; omega)
      rw [hxs.out] at hX
      have hNx : Hid (Nums xs) := Lib.hid (by rw [← hxs.out]; exact nums_enc hsm.out)
      rcases hlt2 with hlt2 | ⟨hlt2, hlt3⟩
      all_goals
        go_wp2_with fail
        refine (inf_up _).mono ?_
        rintro e w' ⟨rfl, rfl⟩
        go_wp2_with (at_builtin; refine wpList_append_fl rfl _ _ rfl B i0 hi hq0 hq1 hq2 _ xs rfl (hX.out.alloc _) ⟨wr.heap.size, 0, none⟩ 1 9218868437227405312 rfl ?u1 ?u2 ?u3 ?_)
        case u1 => simp
        case u2 => have := hxl.out; simp; omega
        case u3 => simp; omega
        intro vwu wu hxwu hgwu _
        have hnwu := app_one hnwr hBle hX.out hgwu
        have Hwu := Lib.hid hxwu
        have hszwu := hnwu.size
        clear hxwu hgwu
        go_wp2_with fail
        refine (nan_any _).mono ?_
        rintro e w' ⟨rfl, rfl⟩
        go_wp2_with (at_builtin; refine wpList_append_fl rfl _ _ rfl B i0 hi hq0 hq1 hq2 _ (xs ++ [9218868437227405312]) rfl (Hwu.out.alloc _) ⟨wu.heap.size, 0, none⟩ 1 9221120237041090561 rfl ?n1 ?n2 ?n3 ?_)
        case n1 => simp
        case n2 => have := hxl.out; simp; omega
        case n3 => simp; omega
        intro vwn wn hxwn hgwn _
        have hnwn := app_one hnwu hBle Hwu.out hgwn
        have Hwn := Lib.hid hxwn
        have hszwn := hnwn.size
        clear hxwn hgwn
        have hwd0 : ∀ x ∈ (xs ++ [9218868437227405312, 9221120237041090561]), x < 18446744073709551616 := by
          intro x hx
          have hN := fun y hy => (hNx.out y hy).1
          simp at hx
          rcases hx with hx | rfl | rfl
          all_goals first | exact hN _ hx | omega
        have FS := Lib.hid (own_fsl Hwn.out hwd0 (by have := hxl.out; simp; omega))
        have hblt := Lib.hid (own_block_lt Hwn.out)
        have hl9 : Hid (((xs ++ [9218868437227405312, 9221120237041090561])).length ≤ 40) := Lib.hid (by have := hxl.out; simp; omega)
        clear hwd0
        obtain ⟨L, hLd⟩ : ∃ L, Hid ((xs ++ [9218868437227405312, 9221120237041090561]) = L) := ⟨_, Lib.hid rfl⟩
        rw [hLd.out] at FS hl9 Hwn
        obtain ⟨a9, c9, rfl⟩ := own_shape' Hwn.out
        go_wp2_with fail
        refine (inf_down _).mono ?_
        rintro e w' ⟨rfl, rfl⟩
        go_wp2_with (at_builtin; refine wpList_append_pre rfl _ _ rfl B i0 hi hq0 hq1 hq2 wn.heap.size 18442240474082181120 rfl (own_fresh wn B 18442240474082181120 wn.heap.size rfl (by omega)) _ L rfl ((FS.out.later ((Below.refl _ _).alloc (Nat.le_refl _) _))) ?d2 ?d3 ?_)
        case d2 => have := hl9.out; omega
        case d3 => simp; omega
        intro vwd wd hxwd hgwd
        have hnwd : Below B w wd := (hnwn.alloc (by omega) _).grown hgwd (by simp; omega) (fun k hk => by cases hk; omega)
        have Hwd := Lib.hid hxwd
        have hszwd := hnwd.size
        clear hxwd hgwd
        rw [← hLd.out] at Hwd
        have hwd : ∀ x ∈ (18442240474082181120 :: (xs ++ [9218868437227405312, 9221120237041090561])), x < 18446744073709551616 := by
          intro x hx
          have hN := fun y hy => (hNx.out y hy).1
          simp at hx
          rcases hx with rfl | hx | rfl | rfl
          all_goals first | exact hN _ hx | omega
        have FX := Lib.hid (own_fsl Hwd.out hwd (by have := hxl.out; simp; omega))
        have hbel : Hid (Below w.heap.size w wd) := Lib.hid (by rw [← hB.out]; exact hnwd)
        have S1 : Hid (sumO (18442240474082181120 :: (xs ++ [9218868437227405312, 9221120237041090561])) = none) := Lib.hid (sumO_nan nan_nan (by simp))
        have M1 : Hid (bestO (-1) posInf (18442240474082181120 :: (xs ++ [9218868437227405312, 9221120237041090561])) = none) := Lib.hid (bestO_nan _ _ nan_nan (by simp))
        have M2 : Hid (bestO 1 negInf (18442240474082181120 :: (xs ++ [9218868437227405312, 9221120237041090561])) = none) := Lib.hid (bestO_nan _ _ nan_nan (by simp))
        have hp := order_posInf
        have hng := order_negInf
        clear hwd hcv
        go_wp2_with fail
        refine (sum_any _ _ _ FX.out).mono ?_
        rintro e w' ⟨s, n1, rfl, rfl, hg1⟩
        rw [S1.out] at hg1
        have hs : (FloatKind.f64.format.order s s != some .eq) = true := by rw [neq_self, nanB_true hg1.2]
        clear hg1
        go_wp2_with fail
        refine (min_any _ _ _ (FX.out.drewN _)).mono ?_
        rintro e w' ⟨lo, rfl, rfl, hg2⟩
        rw [M1.out] at hg2
        have hlo : (FloatKind.f64.format.order lo lo != some .eq) = true := by rw [neq_self, nanB_true hg2.2]
        clear hg2
        go_wp2_with fail
        refine (max_any _ _ _ (FX.out.drewN _)).mono ?_
        rintro e w' ⟨mo, rfl, rfl, hg3⟩
        rw [M2.out] at hg3
        have hmo : (FloatKind.f64.format.order mo mo != some .eq) = true := by rw [neq_self, nanB_true hg3.2]
        clear hg3
        go_wp2_with fail
        refine (awake_any _).mono ?_
        rintro e w' ⟨rfl, hb⟩
        have HB := Lib.hid hb
        clear hb
        go_wp2
        go_ret
        exact ⟨rfl, (below_drewN hbel.out _).trans (HB.out.mono (by have := hbel.out.size; simpa using this))⟩

theorem edges_walk (a : Option Addr) (cap : Nat) (zs : List Int) (nan up down : Bool) (w : World) (hz : Ins .i64 w a zs) :
    Calls Try.prog 4 #[.slice a zs.length cap, .bool nan, .bool up, .bool down] w fun e w' => e = .returned (.bool true) ∧ Below w.heap.size w w' := by
  cases nan <;> cases up <;> cases down
  · exact edges_plain a cap zs w hz
  · exact edges_d a cap zs w hz
  · exact edges_u a cap zs w hz
  · exact edges_ud a cap zs w hz
  · exact edges_n a cap zs w hz
  · exact edges_nd a cap zs w hz
  · exact edges_nu a cap zs w hz
  · exact edges_nud a cap zs w hz

end Go.Proofs.Ytohkjjmknpbdaaa
