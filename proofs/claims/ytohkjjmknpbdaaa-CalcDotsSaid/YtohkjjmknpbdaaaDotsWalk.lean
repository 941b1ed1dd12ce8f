/- The law 'CalcDots': its plain part, and its walk: for whatever whole numbers the call returns true and writes nothing that was there. -/
import Derived.Test.YtohkjjmknpbdaaaAppend
import Derived.Test.YtohkjjmknpbdaaaTellsWalk
namespace Go.Proofs.Ytohkjjmknpbdaaa
open Go.RowKit Fl

/-- the whole numbers of 16 bits that the law makes of what came in -/
def whole16 (zs : List Int) : List Int := (zs.take 40).map fun z => z % 65536

/-- numbers from 0 to 65535, at most 40 -/
def Fits (ns : List Int) : Prop := ns.length ≤ 40 ∧ ∀ n ∈ ns, 0 ≤ n ∧ n ≤ 65535

theorem whole16_fits (zs : List Int) : Fits (whole16 zs) := by
  refine ⟨by unfold whole16; simp; omega, ?_⟩
  intro n hn
  unfold whole16 at hn
  obtain ⟨z, _, rfl⟩ := List.mem_map.1 hn
  omega

theorem Fits.small {ns : List Int} (h : Fits ns) : Small ns := ⟨by have := h.1; omega, fun n hn => by have := h.2 n hn; omega⟩

theorem whole16_len (zs : List Int) : (whole16 zs).length = min 40 zs.length := by unfold whole16; simp

theorem whole16_get (zs : List Int) (k : Nat) (h : k < zs.length) (h4 : k < 40) : (whole16 zs).getD k 0 = zs.getD k 0 % 65536 := by
  unfold whole16
  simp [List.getD, h4, List.getElem?_eq_getElem h]

theorem take_getD (ns : List Int) (k : Nat) (h : k < ns.length) : ns.take (k + 1) = ns.take k ++ [ns.getD k 0] := by
  rw [List.take_succ_eq_append_getElem h]; simp [List.getD, h]

/-- the sum of products, as a whole number -/
def dsum (ns ms : List Int) : Int := ((ns.zip ms).map fun p => p.1 * p.2).sum

theorem prod_bound {a b : Int} (ha : 0 ≤ a ∧ a ≤ 65535) (hb : 0 ≤ b ∧ b ≤ 65535) : 0 ≤ a * b ∧ a * b ≤ 4294836225 := by
  refine ⟨Int.mul_nonneg ha.1 hb.1, ?_⟩
  have h1 := Int.mul_le_mul ha.2 hb.2 hb.1 (by omega : (0 : Int) ≤ 65535)
  simpa using h1

theorem dsum_bound : ∀ (ns ms : List Int), (∀ n ∈ ns, 0 ≤ n ∧ n ≤ 65535) → (∀ n ∈ ms, 0 ≤ n ∧ n ≤ 65535) → 0 ≤ dsum ns ms ∧ dsum ns ms ≤ ns.length * 4294836225
  | [], _, _, _ => by simp [dsum]
  | n :: ns, [], _, _ => by simp [dsum]; omega
  | n :: ns, m :: ms, h1, h2 => by
    have ih := dsum_bound ns ms (fun x hx => h1 x (by simp [hx])) (fun x hx => h2 x (by simp [hx]))
    have hp := prod_bound (h1 n (by simp)) (h2 m (by simp))
    have e : dsum (n :: ns) (m :: ms) = n * m + dsum ns ms := by simp [dsum]
    rw [e, List.length_cons, Int.natCast_add, Int.add_mul]
    simp
    omega

theorem fold_dot : ∀ (ns ms : List Int) (a : Int) (c : Nat), (∀ n ∈ ns, 0 ≤ n ∧ n ≤ 65535) → (∀ n ∈ ms, 0 ≤ n ∧ n ≤ 65535) → a.natAbs ≤ c * 4294836225 → c + ns.length ≤ 40 →
    ((ns.map enc).zip (ms.map enc)).foldl dotStep (some (enc a)) = some (enc (a + dsum ns ms))
  | [], _, a, _, _, _, _, _ => by simp [dsum]
  | n :: ns, [], a, _, _, _, _, _ => by simp [dsum]
  | n :: ns, m :: ms, a, c, h1, h2, ha, hc => by
    have hn := h1 n (by simp)
    have hm := h2 m (by simp)
    have hp := prod_bound hn hm
    simp only [List.length_cons] at hc
    have hc2 : c * 4294836225 ≤ 40 * 4294836225 := Nat.mul_le_mul_right _ (by omega)
    have e1 : fOp .mul (enc n) (enc m) = some (enc (n * m)) := by
      obtain ⟨p, rfl⟩ := Int.eq_ofNat_of_zero_le hn.1
      obtain ⟨q, rfl⟩ := Int.eq_ofNat_of_zero_le hm.1
      have := mul_whole (a := p) (b := q) (by omega) (by omega)
      rw [Int.natCast_mul] at this
      exact this
    have e2 : dotStep (some (enc a)) (enc n, enc m) = some (enc (a + n * m)) := by
      unfold dotStep
      simp only [Option.bind_some, e1]
      exact fOp_add_whole (by omega) (by omega) (by omega)
    have e3 : dsum (n :: ns) (m :: ms) = n * m + dsum ns ms := by simp [dsum]
    rw [List.map_cons, List.map_cons, List.zip_cons_cons, List.foldl_cons, e2, fold_dot ns ms (a + n * m) (c + 1) (fun x hx => h1 x (by simp [hx])) (fun x hx => h2 x (by simp [hx])) (by omega) (by omega), e3, Int.add_assoc]

theorem dotO_whole {ns ms : List Int} (h1 : Fits ns) (h2 : Fits ms) : dotO (ns.map enc) (ms.map enc) = some (enc (dsum ns ms)) := by
  have := fold_dot ns ms 0 0 h1.2 h2.2 (by simp) (by have := h1.1; omega)
  rw [enc_zero, Int.zero_add] at this
  exact this

theorem dsum_comm : ∀ (ns ms : List Int), dsum ns ms = dsum ms ns
  | [], ms => by simp [dsum]
  | n :: ns, [] => by simp [dsum]
  | n :: ns, m :: ms => by
    have e1 : dsum (n :: ns) (m :: ms) = n * m + dsum ns ms := by simp [dsum]
    have e2 : dsum (m :: ms) (n :: ns) = m * n + dsum ms ns := by simp [dsum]
    rw [e1, e2, dsum_comm ns ms, Int.mul_comm]

theorem dsum_ones : ∀ (ns : List Int), dsum ns (List.replicate ns.length 1) = ns.sum
  | [] => by simp [dsum]
  | n :: ns => by
    have e1 : dsum (n :: ns) (1 :: List.replicate ns.length 1) = n * 1 + dsum ns (List.replicate ns.length 1) := by simp [dsum]
    rw [List.length_cons, List.replicate_succ, e1, dsum_ones ns, List.sum_cons, Int.mul_one]

theorem zip_longer : ∀ (ns ms l : List Int), ns.length ≤ ms.length → ns.zip (ms ++ l) = ns.zip ms
  | [], ms, l, _ => by simp
  | n :: ns, [], l, h => by simp at h
  | n :: ns, m :: ms, l, h => by
    simp only [List.length_cons] at h
    rw [List.cons_append, List.zip_cons_cons, List.zip_cons_cons, zip_longer ns ms l (by omega)]

/-- one more number on the other side -/
theorem dsum_snoc (ns ms : List Int) (k : Nat) (hk : k < ms.length) :
    dsum ns (ms.take (k + 1)) = dsum ns (ms.take k) + if k < ns.length then ns.getD k 0 * ms.getD k 0 else 0 := by
  rw [take_getD ms k hk]
  unfold dsum
  by_cases h : k < ns.length
  · rw [if_pos h]
    have e1 : ns.zip (ms.take k ++ [ms.getD k 0]) = (ns.take k).zip (ms.take k) ++ [(ns.getD k 0, ms.getD k 0)] ++ [] := by
      have e2 : ns = ns.take k ++ (ns.getD k 0 :: ns.drop (k + 1)) := by
        rw [← List.take_append_drop k ns]
        rw [List.drop_eq_getElem_cons h]
        simp [List.getD, h]
      conv => lhs; rw [e2]
      rw [List.zip_append (by simp; omega)]
      simp
    have e3 : ns.zip (ms.take k) = (ns.take k).zip (ms.take k) := by
      conv => lhs; rw [← List.take_append_drop k ns, ← List.append_nil (ms.take k)]
      rw [List.zip_append (by simp; omega)]
      simp
    rw [e1, e3]
    simp
  · rw [if_neg h]
    have e1 : ns.zip (ms.take k ++ [ms.getD k 0]) = ns.zip (ms.take k) := zip_longer _ _ _ (by simp; omega)
    rw [e1]; simp

theorem one_enc : enc 1 = 4607182418800017408 := by decide +kernel

def DtRel1 (zs : List Int) (w : World) (B : Nat) (x o i : Value) (wr : World) : Prop :=
  ∃ k : Nat, k ≤ zs.length ∧ k ≤ 40 ∧ i = .int .i64 k ∧ Own wr B x (((whole16 zs).take k).map enc) ∧ Own wr B o ((List.replicate k 1).map enc) ∧ Apart x o ∧ Below B w wr

def DtRel2 (ns : List Int) (zs2 : List Int) (W : World) (B : Nat) (y n i : Value) (wr : World) : Prop :=
  ∃ k : Nat, k ≤ zs2.length ∧ k ≤ 40 ∧ i = .int .i64 k ∧ Own wr B y (((whole16 zs2).take k).map enc) ∧ n = .int .i64 (dsum ns ((whole16 zs2).take k)) ∧ Below B W wr

theorem whole16_snoc (zs : List Int) (k : Nat) (h : k < zs.length) (h4 : k < 40) : (whole16 zs).take (k + 1) = (whole16 zs).take k ++ [zs.getD k 0 % 65536] := by
  rw [take_getD _ _ (by rw [whole16_len]; omega), whole16_get zs k h h4]

set_option maxHeartbeats 3200000 in
theorem dots_walk (a : Option Addr) (cap : Nat) (zs : List Int) (a2 : Option Addr) (cap2 : Nat) (zs2 : List Int) (w : World) (hz : Ins .i64 w a zs) (hz2 : Ins .i64 w a2 zs2) :
    Calls Try.prog 6 #[.slice a zs.length cap, .slice a2 zs2.length cap2] w fun e w' => e = .returned (.bool true) ∧ Below w.heap.size w w' := by
  obtain ⟨hlen, _, hc⟩ := hz
  obtain ⟨hlen2, _, hc2⟩ := hz2
  unfold maxLen at hlen hlen2
  have hC := Lib.hid hc
  have hC2 := Lib.hid hc2
  clear hc hc2
  obtain ⟨i0, hi, hq0, hq1, hq2⟩ := info_parts Try.info24
  have hand := and16
  have hcv := enc_floatOfInt
  obtain ⟨B, hB⟩ : ∃ B, Hid (B = w.heap.size) := ⟨_, rfl⟩
  have hBle : B ≤ w.heap.size := by have := hB.out; omega
  go_enter Try.func6, Try.ntmps6
  go_wp2
  go_loopw [5, 7, 9] (fun x o i wr => DtRel1 zs w B x o i wr) (fun _ _ i _ => zs.length - (intOf i).toNat)
  case atStart => exact ⟨0, Nat.zero_le _, Nat.zero_le _, rfl, by rw [List.take_zero]; exact own_nil _ _, own_nil _ _, (fun g h => by simp [Value.ownBlock] at h), Below.refl _ _⟩
  case round =>
    obtain ⟨k, hk, hk4, rfl, hownx, howno, hap, hnx⟩ := hrel
    have hX := Lib.hid hownx
    have hO := Lib.hid howno
    have hA := Lib.hid hap
    have hsz := hnx.size
    by_cases hlt : k < zs.length ∧ k < 40
    · obtain ⟨hlt1, hlt4⟩ := hlt
      obtain ⟨b, off, rfl, hb, hcell0⟩ := hC.out k hlt1
      have hcell : wr.cell? ⟨b, off + k, none⟩ = some (.int .i64 (zs.getD k 0)) := (hnx.cell (by have := hB.out; simp; omega)).trans hcell0
      have hts := Lib.hid (whole16_snoc zs k hlt1 hlt4)
      have hLx : Hid ((((whole16 zs).take k).map enc).length ≤ 40) := Lib.hid (by simp; omega)
      have hLo : Hid (((List.replicate k (1 : Int)).map enc).length ≤ 40) := Lib.hid (by simp; omega)
      clear hownx howno hap hcell0 hb
      generalize hXX : zs.getD k 0 = z at *
      obtain ⟨qs, hQ⟩ : ∃ qs, Hid (((whole16 zs).take k).map enc = qs) := ⟨_, rfl⟩
      obtain ⟨os, hOs⟩ : ∃ os, Hid ((List.replicate k (1 : Int)).map enc = os) := ⟨_, rfl⟩
      rw [hQ.out] at hX hLx
      rw [hOs.out] at hO hLo
      clear hXX
      have hm0 : 0 ≤ z % 65536 := by omega
      have hm1 : z % 65536 < 65536 := by omega
      go_wp2_with (at_builtin; refine wpList_append_fl rfl _ _ rfl B i0 hi hq0 hq1 hq2 _ qs rfl (hX.out.alloc _) ⟨wr.heap.size, 0, none⟩ 1 (enc (z % 65536)) rfl ?c1 ?c2 ?c3 ?_)
      case c1 => simp
      case c2 => have := hLx.out; omega
      case c3 => simp; omega
      intro v1 w1 hx1 hg1 hb1
      have R := app_step hnx hBle hX.out hO.out hA.out hg1 hb1
      have hX1 := Lib.hid hx1
      have hO1 := Lib.hid R.1
      have hA1 := Lib.hid R.2.1
      have hnx1 := R.2.2
      have hsz1 := hnx1.size
      clear R hx1 hg1 hb1 hcell hnx hsz hX hO hA
      go_wp2_with (at_builtin; refine wpList_append_fl rfl _ _ rfl B i0 hi hq0 hq1 hq2 _ os rfl (hO1.out.alloc _) ⟨w1.heap.size, 0, none⟩ 1 4607182418800017408 rfl ?c4 ?c5 ?c6 ?_)
      case c4 => simp
      case c5 => have := hLo.out; omega
      case c6 => simp; omega
      intro v2 w2 ho2 hg2 hb2
      have R := app_step hnx1 hBle hO1.out hX1.out hA1.out.symm' hg2 hb2
      have hO2 := Lib.hid ho2
      clear ho2 hg2 hb2 hO1 hX1 hA1 hnx1 hsz1
      go_wp2
      go_roundw
      case rel =>
        refine ⟨k + 1, by omega, by omega, by go_num, by rw [hts.out, List.map_append, hQ.out]; exact R.1, ?_, R.2.1.symm', R.2.2⟩
        rw [List.replicate_succ', List.map_append, hOs.out, List.map_cons, List.map_nil, one_enc]
        exact hO2.out
      case measure => simp [intOf]; omega
    · have hfull : Hid ((whole16 zs).take k = whole16 zs) := Lib.hid (List.take_of_length_le (by rw [whole16_len]; omega))
      have hkl : Hid (k = (whole16 zs).length) := Lib.hid (by rw [whole16_len]; omega)
      rw [hfull.out] at hX
      have hFt := Lib.hid (whole16_fits zs)
      have hget := Lib.hid (whole16_get zs)
      have hnl := Lib.hid (whole16_len zs)
      rw [hkl.out] at hO
      clear hownx howno hap hfull
      have hlt2 : ¬ k < zs.length ∨ (k < zs.length ∧ ¬ k < 40) := by omega
      clear hlt
      generalize hNs : whole16 zs = ns at *
      clear hNs
      obtain ⟨xs, hxs⟩ : ∃ xs, Hid (ns.map enc = xs) := ⟨_, rfl⟩
      obtain ⟨os, hos⟩ : ∃ os, Hid ((List.replicate ns.length (1 : Int)).map enc = os) := ⟨_, rfl⟩
      have hxl : xs.length = ns.length := by rw [← hxs.out]; simp
      rw [hxs.out] at hX
      rw [hos.out] at hO
      have hnl40 := hFt.out.1
      have FX := Lib.hid (own_fsl hX.out (by rw [← hxs.out]; intro x hx; obtain ⟨n, hn, rfl⟩ := List.mem_map.1 hx; exact (enc_whole (by have := hFt.out.2 n hn; omega)).lt) (by omega))
      have FO := Lib.hid (own_fsl hO.out (by rw [← hos.out]; intro x hx; obtain ⟨n, hn, rfl⟩ := List.mem_map.1 hx; exact (enc_whole (by have := List.eq_of_mem_replicate hn; omega)).lt) (by rw [← hos.out]; simp; omega))
      have hXl := Lib.hid (own_block_lt hX.out)
      have hOl := Lib.hid (own_block_lt hO.out)
      obtain ⟨a5, c5, rfl⟩ := own_shape' hX.out
      have hxlh := Lib.hid hxl
      clear hxl hX hO hA
      rcases hlt2 with hlt2 | ⟨hlt2, hlt3⟩
      all_goals
        go_wp2
        obtain ⟨W, rfl⟩ : ∃ W : World, W = wr := ⟨_, rfl⟩
        obtain ⟨B2, hB2⟩ : ∃ B2, Hid (B2 = W.heap.size) := ⟨_, rfl⟩
        have hB2le : B2 ≤ W.heap.size := by have := hB2.out; omega
        go_loopw [6, 8, 10] (fun y n i wr => DtRel2 ns zs2 W B2 y n i wr) (fun _ _ i _ => zs2.length - (intOf i).toNat)
        case atStart => exact ⟨0, Nat.zero_le _, Nat.zero_le _, rfl, by rw [List.take_zero]; exact own_nil _ _, by rw [List.take_zero, dsum_comm]; rfl, Below.refl _ _⟩
        case round =>
          obtain ⟨j, hj, hj4, rfl, howny, rfl, hnx2⟩ := hrel
          have hY := Lib.hid howny
          have hsz2 := hnx2.size
          clear howny
          by_cases hjl : j < zs2.length ∧ j < 40
          · obtain ⟨hjl1, hjl4⟩ := hjl
            obtain ⟨b2, off2, rfl, hb2, hcell20⟩ := hC2.out j hjl1
            have hcell2 : wr.cell? ⟨b2, off2 + j, none⟩ = some (.int .i64 (zs2.getD j 0)) := (hnx2.cell (by have := hB2.out; have := hnx.size; simp; omega)).trans ((hnx.cell (by have := hB.out; simp; omega)).trans hcell20)
            have hts := Lib.hid (whole16_snoc zs2 j hjl1 hjl4)
            have hLy : Hid ((((whole16 zs2).take j).map enc).length ≤ 40) := Lib.hid (by simp; omega)
            have hds := Lib.hid (dsum_snoc ns (whole16 zs2) j (by rw [whole16_len]; omega))
            have hdb := dsum_bound ns ((whole16 zs2).take j) hFt.out.2 (fun n hn => (whole16_fits zs2).2 n (List.mem_of_mem_take hn))
            have hg2 := Lib.hid (whole16_get zs2 j hjl1 hjl4)
            obtain ⟨qs, hQ⟩ : ∃ qs, Hid (((whole16 zs2).take j).map enc = qs) := ⟨_, rfl⟩
            rw [hQ.out] at hY hLy
            have hdb1 : 0 ≤ dsum ns ((whole16 zs2).take j) ∧ dsum ns ((whole16 zs2).take j) ≤ 171793449000 := by omega
            clear hdb
            by_cases hji : j < ns.length
            · have hz1 : j < zs.length := by have := hnl.out; omega
              obtain ⟨b, off, rfl, hb, hcell0⟩ := hC.out j hz1
              have hcell : wr.cell? ⟨b, off + j, none⟩ = some (.int .i64 (zs.getD j 0)) := (hnx2.cell (by have := hB2.out; have := hnx.size; simp; omega)).trans ((hnx.cell (by have := hB.out; simp; omega)).trans hcell0)
              have hg1 := Lib.hid (hget.out j hz1 (by omega))
              have hjx : j < xs.length := by have := hxlh.out; omega
              have hde : Hid (dsum ns ((whole16 zs2).take (j + 1)) = dsum ns ((whole16 zs2).take j) + zs.getD j 0 % 65536 * (zs2.getD j 0 % 65536)) := Lib.hid (by
                rw [hds.out, if_pos hji, hg1.out, hg2.out])
              have hp := prod_bound (a := zs.getD j 0 % 65536) (b := zs2.getD j 0 % 65536) (by omega) (by omega)
              have hOld : Hid (∀ w1 : World, Below B2 W w1 → w1.cell? ⟨b, off + j, none⟩ = some (.int .i64 (zs.getD j 0)) ∧ w1.cell? ⟨b2, off2 + j, none⟩ = some (.int .i64 (zs2.getD j 0))) := Lib.hid (fun w1 hw1 =>
                ⟨(hw1.cell (by have := hB2.out; have := hnx.size; simp; omega)).trans ((hnx.cell (by have := hB.out; simp; omega)).trans hcell0),
                 (hw1.cell (by have := hB2.out; have := hnx.size; simp; omega)).trans ((hnx.cell (by have := hB.out; simp; omega)).trans hcell20)⟩)
              clear hds hg1 hg2 hb hcell0 hb2 hcell20
              generalize hZ1 : zs.getD j 0 = z1 at *
              generalize hZ2 : zs2.getD j 0 = z2 at *
              generalize hD : dsum ns ((whole16 zs2).take j) = d at *
              clear hZ1 hZ2 hD
              go_wp2_with (at_builtin; refine wpList_append_fl rfl _ _ rfl B2 i0 hi hq0 hq1 hq2 _ qs rfl (hY.out.alloc _) ⟨wr.heap.size, 0, none⟩ 1 (enc (z2 % 65536)) rfl ?c1 ?c2 ?c3 ?_)
              case c1 => simp
              case c2 => have := hLy.out; omega
              case c3 => simp; omega
              intro v1 w1 hy1 hgr1 hbl1
              have hnx3 := app_one hnx2 hB2le hY.out hgr1
              have hY1 := Lib.hid hy1
              obtain ⟨hk1, hk2⟩ := hOld.out w1 hnx3
              have hN3 := Lib.hid hnx3
              have e1 : IntKind.i64.wrap (z1 % 65536 * (z2 % 65536)) = z1 % 65536 * (z2 % 65536) := IntWalk.i64_in _ (by omega)
              have e2 : IntKind.i64.wrap (d + z1 % 65536 * (z2 % 65536)) = d + z1 % 65536 * (z2 % 65536) := IntWalk.i64_in _ (by omega)
              clear hy1 hgr1 hbl1 hnx3 hOld hcell hcell2 hnx2
              go_wp2
              go_region
              go_wp2
              go_roundw
              case rel => exact ⟨j + 1, by omega, by omega, by go_num, by rw [hts.out, List.map_append, hQ.out]; exact hY1.out, by rw [hde.out], hN3.out.drew⟩
              case measure => simp [intOf]; omega
            · have hjx : ¬ j < xs.length := by have := hxlh.out; omega
              have hde : Hid (dsum ns ((whole16 zs2).take (j + 1)) = dsum ns ((whole16 zs2).take j)) := Lib.hid (by
                rw [hds.out, if_neg hji, Int.add_zero])
              clear hds hg2 hb2 hcell20
              generalize hZ2 : zs2.getD j 0 = z2 at *
              generalize hD : dsum ns ((whole16 zs2).take j) = d at *
              clear hZ2 hD
              have hm2 : 0 ≤ z2 % 65536 := by omega
              have hm3 : z2 % 65536 < 65536 := by omega
              go_wp2_with (at_builtin; refine wpList_append_fl rfl _ _ rfl B2 i0 hi hq0 hq1 hq2 _ qs rfl (hY.out.alloc _) ⟨wr.heap.size, 0, none⟩ 1 (enc (z2 % 65536)) rfl ?c1 ?c2 ?c3 ?_)
              case c1 => simp
              case c2 => have := hLy.out; omega
              case c3 => simp; omega
              intro v1 w1 hy1 hgr1 hbl1
              have hN3 := Lib.hid (app_one hnx2 hB2le hY.out hgr1)
              have hY1 := Lib.hid hy1
              clear hy1 hgr1 hbl1 hcell2 hnx2
              go_wp2
              go_roundw
              case rel => exact ⟨j + 1, by omega, by omega, by go_num, by rw [hts.out, List.map_append, hQ.out]; exact hY1.out, by rw [hde.out], hN3.out⟩
              case measure => simp [intOf]; omega
          · have hfy : Hid ((whole16 zs2).take j = whole16 zs2) := Lib.hid (List.take_of_length_le (by rw [whole16_len]; omega))
            rw [hfy.out] at hY
            rw [hfy.out]
            have hFt2 := Lib.hid (whole16_fits zs2)
            have hjl2 : ¬ j < zs2.length ∨ (j < zs2.length ∧ ¬ j < 40) := by omega
            clear hjl hfy
            generalize hMs : whole16 zs2 = ms at *
            clear hMs
            have FY := Lib.hid (own_fsl hY.out (by intro x hx; obtain ⟨n, hn, rfl⟩ := List.mem_map.1 hx; exact (enc_whole (by have := hFt2.out.2 n hn; omega)).lt) (by have := hFt2.out.1; simp; omega))
            have FX2 := Lib.hid (FX.out.below hnx2 (fun k hk => by have := hXl.out k hk; have := hB2.out; omega))
            have FO2 := Lib.hid (FO.out.below hnx2 (fun k hk => by have := hOl.out k hk; have := hB2.out; omega))
            have hbel : Hid (Below w.heap.size w wr) := by
              refine Lib.hid ?_
              rw [← hB.out]
              exact hnx.trans (hnx2.mono (by have := hB2.out; have := hnx.size; omega))
            have d1 : Hid (dotO xs (ms.map enc) = some (enc (dsum ns ms))) := Lib.hid (by rw [← hxs.out]; exact dotO_whole hFt.out hFt2.out)
            have d2 : Hid (dotO (ms.map enc) xs = some (enc (dsum ns ms))) := Lib.hid (by rw [← hxs.out, dsum_comm]; exact dotO_whole hFt2.out hFt.out)
            have d3 : Hid (dotO xs os = some (enc ns.sum)) := Lib.hid (by
              rw [← hxs.out, ← hos.out, dotO_whole hFt.out ⟨by simpa using hFt.out.1, fun n hn => by have := List.eq_of_mem_replicate hn; omega⟩, dsum_ones])
            have d4 : Hid (sumO xs = some (enc ns.sum)) := Lib.hid (by rw [← hxs.out]; exact sumO_whole hFt.out.small)
            have d5 : Hid (dotO xs [] = some 0) := Lib.hid (dotO_nil_right xs)
            have hdb := dsum_bound ns ms hFt.out.2 hFt2.out.2
            have o1 : FloatKind.f64.format.order (enc (dsum ns ms)) (enc (dsum ns ms)) = some .eq := order_self.2 (of_nanB_false (nanB_whole (by omega)))
            have o2 : FloatKind.f64.format.order (enc ns.sum) (enc ns.sum) = some .eq := order_self.2 (of_nanB_false (nanB_whole hFt.out.small.sum))
            have o3 : FloatKind.f64.format.order 0 0 = some .eq := by decide +kernel
            have hcv1 : floatOfInt .f64 (dsum ns ms) = enc (dsum ns ms) := rfl
            clear hcv hdb
            generalize enc (dsum ns ms) = s0 at *
            generalize enc ns.sum = t0 at *
            rcases hjl2 with hj2 | ⟨hj2, hj3⟩
            all_goals
              go_wp2_with fail
              refine (dot_any _ _ _ _ _ FX2.out FY.out).mono ?_
              rintro e w' ⟨r, n1, rfl, rfl, hg⟩
              rw [d1.out] at hg
              obtain rfl : r = s0 := hg.2
              clear hg
              go_wp2_with fail
              refine (dot_any _ _ _ _ _ (FY.out.drewN _) (FX2.out.drewN _)).mono ?_
              rintro e w' ⟨r2, n2, rfl, rfl, hg⟩
              rw [d2.out] at hg
              obtain rfl : r2 = r := hg.2
              clear hg
              go_wp2_with fail
              refine (dot_any _ _ _ _ _ (FX2.out.drewN _) (FO2.out.drewN _)).mono ?_
              rintro e w' ⟨r3, n3, rfl, rfl, hg⟩
              rw [d3.out] at hg
              obtain rfl : r3 = t0 := hg.2
              clear hg
              go_wp2_with fail
              refine (sum_any _ _ _ (FX2.out.drewN _)).mono ?_
              rintro e w' ⟨r4, n4, rfl, rfl, hg⟩
              rw [d4.out] at hg
              obtain rfl : r4 = r3 := hg.2
              clear hg
              go_wp2_with fail
              refine (dot_any _ _ _ _ _ (FX2.out.drewN _) (fsl_nil _)).mono ?_
              rintro e w' ⟨r5, n5, rfl, rfl, hg⟩
              rw [d5.out] at hg
              obtain rfl : r5 = 0 := hg.2
              clear hg
              go_wp2_with fail
              refine (awake_any _).mono ?_
              rintro e w' ⟨rfl, hb⟩
              have HB := Lib.hid hb
              clear hb
              go_wp2
              go_ret
              exact ⟨rfl, (below_drewN hbel.out _).trans (HB.out.mono (by have := hbel.out.size; simpa using this))⟩

end Go.Proofs.Ytohkjjmknpbdaaa
