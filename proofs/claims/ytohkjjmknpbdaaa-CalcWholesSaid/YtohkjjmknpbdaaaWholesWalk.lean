/- The law 'CalcWholes', its walk: for whatever whole numbers and turn the call returns true and writes nothing that was there. -/
import Derived.Test.YtohkjjmknpbdaaaWholesPlain
namespace Go.Proofs.Ytohkjjmknpbdaaa
open Go.RowKit Fl

/-- the whole numbers that the law makes of what came in -/
def whole20 (zs : List Int) : List Int := (zs.take 50).map fun z => z % 1048576 - 524288

theorem whole20_small (zs : List Int) : Small (whole20 zs) := by
  refine ⟨by unfold whole20; simp; omega, ?_⟩
  intro n hn
  unfold whole20 at hn
  obtain ⟨z, _, rfl⟩ := List.mem_map.1 hn
  omega

theorem whole20_snoc (zs : List Int) (k : Nat) (h : k < zs.length) (h5 : k < 50) : (whole20 zs).take (k + 1) = (whole20 zs).take k ++ [zs.getD k 0 % 1048576 - 524288] := by
  unfold whole20
  have hl : k < ((zs.take 50).map fun z => z % 1048576 - 524288).length := by simp; omega
  rw [List.take_succ_eq_append_getElem hl]
  congr 2
  simp [List.getD, List.getElem?_eq_getElem h]

theorem whole20_len (zs : List Int) : (whole20 zs).length = min 50 zs.length := by unfold whole20; simp

theorem part_bound (zs : List Int) (k : Nat) : ((whole20 zs).take k).sum.natAbs < 2 ^ 50 := by
  have hs := whole20_small zs
  have := sum_bound ((whole20 zs).take k) (fun n hn => hs.2 n (List.mem_of_mem_take hn))
  have h2 : ((whole20 zs).take k).length ≤ 50 := by simp [whole20_len]; omega
  have h3 : ((whole20 zs).take k).length * 2 ^ 40 ≤ 50 * 2 ^ 40 := Nat.mul_le_mul_right _ h2
  omega

def WhRel (zs : List Int) (w : World) (B : Nat) (x n i : Value) (wr : World) : Prop :=
  ∃ k : Nat, k ≤ zs.length ∧ k ≤ 50 ∧ i = .int .i64 k ∧ n = .int .i64 ((whole20 zs).take k).sum ∧ Own wr B x (((whole20 zs).take k).map enc) ∧ Below B w wr

theorem own_shape {w : World} {B : Nat} {v : Value} {xs : List Nat} (h : Own w B v xs) : ∃ a c, v = .slice a xs.length c := by
  rcases h.2 with ⟨rfl, h0⟩ | ⟨g, cap, cur, rfl, _⟩
  · rw [h0]; exact ⟨_, _, rfl⟩
  · exact ⟨_, _, rfl⟩

theorem Fsl.at {w : World} {a : Option Addr} {n c : Nat} {xs : List Nat} (h : Fsl w (.slice a n c) xs) {i : Nat} (hi : i < xs.length) :
    ∃ b off, a = some ⟨b, off, none⟩ ∧ b < w.heap.size ∧ w.cell? ⟨b, off + i, none⟩ = some (.float .f64 (xs.getD i 0)) := by
  obtain ⟨_, _, h | h⟩ := h
  · rw [h.1] at hi; exact absurd hi (by simp)
  · obtain ⟨_, b, off, c', e, hc⟩ := h
    injection e with e1 e2 e3
    exact ⟨b, off, e1, World.block_lt_of_cell? w _ (hc i hi), hc i hi⟩

def rotN (xs : List Nat) (t : Nat) : List Nat := (List.range xs.length).map fun i => xs.getD ((i + t) % xs.length) 0

theorem rotN_len (xs : List Nat) (t : Nat) : (rotN xs t).length = xs.length := by unfold rotN; simp

theorem rotN_snoc (xs : List Nat) (t k : Nat) (h : k < xs.length) : (rotN xs t).take (k + 1) = (rotN xs t).take k ++ [xs.getD ((k + t) % xs.length) 0] := by
  rw [List.take_succ_eq_append_getElem (by rw [rotN_len]; exact h)]
  congr 2
  unfold rotN; simp

theorem rotN_map (ns : List Int) (t : Nat) : rotN (ns.map enc) t = ((List.range ns.length).map (fun i => ns.getD ((i + t) % ns.length) 0)).map enc := by
  unfold rotN
  rw [List.map_map, List.length_map]
  apply List.map_congr_left
  intro i hi
  have hl : (i + t) % ns.length < ns.length := Nat.mod_lt _ (by have := List.mem_range.1 hi; omega)
  simp only [Function.comp, List.getD, List.getElem?_map]
  rw [List.getElem?_eq_getElem hl]; rfl

theorem rotN_sum (ns : List Int) (t : Nat) (h : Small ns) : sumO (rotN (ns.map enc) t) = some (enc ns.sum) := by
  rw [rotN_map, sumO_whole (rot_small h t), rot_sum]

theorem rotN_64 (ns : List Int) (t : Nat) (h : Small ns) : ∀ x ∈ rotN (ns.map enc) t, x < 18446744073709551616 := by
  rw [rotN_map]
  intro x hx
  obtain ⟨n, hn, rfl⟩ := List.mem_map.1 hx
  exact (enc_whole (by have := (rot_small h t).2 n hn; omega)).lt

def RotRel (xs : List Nat) (t : Nat) (W : World) (B : Nat) (y i : Value) (wr : World) : Prop :=
  ∃ j : Nat, j ≤ xs.length ∧ i = .int .i64 j ∧ Own wr B y ((rotN xs t).take j) ∧ Below B W wr

set_option maxHeartbeats 1600000 in
theorem wholes_walk (a : Option Addr) (cap : Nat) (zs : List Int) (turn : Int) (w : World) (hz : Ins .i64 w a zs) :
    Calls Try.prog 3 #[.slice a zs.length cap, .int .i64 turn] w fun e w' => e = .returned (.bool true) ∧ Below w.heap.size w w' := by
  obtain ⟨hlen, _, hc⟩ := hz
  unfold maxLen at hlen
  obtain ⟨i0, hi, hz0, hz1, hz2⟩ := info_parts Try.info24
  have hand := and20
  have hcv := enc_floatOfInt
  obtain ⟨B, hB⟩ : ∃ B, Hid (B = w.heap.size) := ⟨_, rfl⟩
  have hBle : B ≤ w.heap.size := by have := hB.out; omega
  go_enter Try.func3, Try.ntmps3
  go_wp2
  go_loopw [5, 6, 7] (fun x n i wr => WhRel zs w B x n i wr) (fun _ _ i _ => zs.length - (intOf i).toNat)
  case atStart => exact ⟨0, Nat.zero_le _, Nat.zero_le _, rfl, rfl, by rw [List.take_zero]; exact own_nil _ _, Below.refl _ _⟩
  case round =>
    obtain ⟨k, hk, hk5, rfl, rfl, hown, hnx⟩ := hrel
    by_cases hlt : k < zs.length ∧ k < 50
    · obtain ⟨hlt1, hlt5⟩ := hlt
      obtain ⟨b, off, rfl, hb, hcell0⟩ := hc k hlt1
      have hcell : wr.cell? ⟨b, off + k, none⟩ = some (.int .i64 (zs.getD k 0)) := (hnx.cell (by have := hB.out; simp; omega)).trans hcell0
      have hts := Lib.hid (whole20_snoc zs k hlt1 hlt5)
      have hbd := part_bound zs k
      have hLen : Hid ((((whole20 zs).take k).map enc).length = k) := Lib.hid (by simp [whole20_len]; omega)
      have hO := Lib.hid hown
      have hsz := hnx.size
      clear hc hown hcell0 hb
      generalize hX : zs.getD k 0 = z at *
      generalize hY : (whole20 zs).take k = ys at *
      clear hX hY
      obtain ⟨qs, hQ⟩ : ∃ qs, Hid (ys.map enc = qs) := ⟨_, rfl⟩
      rw [hQ.out] at hO hLen
      have hm0 : 0 ≤ z % 1048576 := by omega
      have hm1 : z % 1048576 < 1048576 := by omega
      go_wp2_with (at_builtin; refine wpList_append_own _ rfl _ _ 23 rfl B 24 i0 (.float .f64 0) 1 8 Try.underlying23 hi hz0 hz1 hz2 rfl (by decide) _ _ _ rfl (hO.out.alloc _) ⟨wr.heap.size, 0, none⟩ 1 1 [.float .f64 (enc (z % 1048576 - 524288))] rfl rfl ?c1 ?c2 ?c3 ?c4 ?c5 ?_)
      case c1 =>
        intro j u hj
        match j, hj with
        | 0, hj => simp at hj; subst hj; simp [Addr.add]
      case c2 => intro u hu; simp at hu; subst hu; rfl
      case c3 => have := hLen.out; unfold maxLen; omega
      case c4 => have := hLen.out; omega
      case c5 => simp; omega
      intro v' w1 hown' hgrow _
      have R := own_app hnx hBle hO.out hown' hgrow
      clear hown' hgrow hO hcell
      go_wp2
      go_roundw
      case rel => exact ⟨k + 1, by omega, by omega, by go_num, by rw [hts.out, List.sum_append]; simp, by rw [hts.out, List.map_append, hQ.out]; exact R.1, R.2⟩
      case measure => simp [intOf]; omega
    · have hfull0 : Hid ((whole20 zs).take k = whole20 zs) := Lib.hid (List.take_of_length_le (by rw [whole20_len]; omega))
      have hfull : Hid ((whole20 zs).take k = whole20 zs) := Lib.hid (List.take_of_length_le (by rw [whole20_len]; omega))
      rw [hfull.out] at hown
      have hsm := Lib.hid (whole20_small zs)
      have hLn : ((whole20 zs).map enc).length ≤ 50 := by simp [whole20_len]; omega
      have hsb := part_bound zs k
      rw [hfull.out] at hsb
      clear hfull
      obtain ⟨ns, hns⟩ : ∃ ns, Hid (whole20 zs = ns) := ⟨_, rfl⟩
      have e0 := hns.out
      rw [hfull0.out, e0]
      rw [e0] at hown hsm hLn hsb
      clear e0
      obtain ⟨xs, hxs⟩ : ∃ xs, Hid (ns.map enc = xs) := ⟨_, rfl⟩
      have e1 := hxs.out
      rw [e1] at hown hLn
      clear e1
      have hex : ¬ k < zs.length ∨ (k < zs.length ∧ ¬ k < 50) := by omega
      clear hlt
      have hF := Lib.hid (own_fsl hown (by rw [← hxs.out]; intro x hx; obtain ⟨n, hn, rfl⟩ := List.mem_map.1 hx; exact (enc_whole (by have := hsm.out.2 n hn; omega)).lt) (by omega))
      obtain ⟨t, htt⟩ : ∃ t : Nat, turn % 65536 = (t : Int) := ⟨(turn % 65536).toNat, by omega⟩
      have hand2 : bits .and .i64 turn 65535 = (t : Int) := by rw [and16, htt]
      have ht6 : t < 65536 := by omega
      clear htt hand
      rcases hex with hex | ⟨hex1, hex2⟩
      all_goals
        obtain ⟨a5, c5, rfl⟩ := own_shape hown
        have hd50 : ¬ (k < zs.length ∧ k < 50) := by omega
        go_wp2
        obtain ⟨W, rfl⟩ : ∃ W : World, W = wr := ⟨_, rfl⟩
        obtain ⟨B2, hB2⟩ : ∃ B2, Hid (B2 = W.heap.size) := ⟨_, rfl⟩
        have hB2le : B2 ≤ W.heap.size := by have := hB2.out; omega
        have hsz0 := hnx.size
        go_loopw [9, 10] (fun y i wr => RotRel xs t W B2 y i wr) (fun _ i _ => xs.length - (intOf i).toNat)
        case atStart => exact ⟨0, Nat.zero_le _, rfl, by rw [List.take_zero]; exact own_nil _ _, Below.refl _ _⟩
        case round =>
          obtain ⟨j, hj, rfl, hown2, hnx2⟩ := hrel
          by_cases hjl : j < xs.length
          · have hml : (j + t) % xs.length < xs.length := Nat.mod_lt _ (by omega)
            obtain ⟨b, off, rfl, hb, hcell0⟩ := hF.out.at hml
            have hcell := (hnx2.cell (p := ⟨b, off + (j + t) % xs.length, none⟩) (by have := hB2.out; simp; omega)).trans hcell0
            have hts := Lib.hid (rotN_snoc xs t j hjl)
            have hLen : Hid (((rotN xs t).take j).length = j) := Lib.hid (by simp [rotN_len]; omega)
            have hO := Lib.hid hown2
            have hsz := hnx2.size
            have em : ((j : Int) + (t : Int)) % (xs.length : Int) = (((j + t) % xs.length : Nat) : Int) := by simp
            have em2 : ((j : Int) + (t : Int)).tmod (xs.length : Int) = (((j + t) % xs.length : Nat) : Int) := by
              rw [Int.tmod_eq_emod_of_nonneg (by omega)]; exact em
            have hl0 : (0 : Int) < (xs.length : Int) := by omega
            clear hown2 hcell0 hb hc hown
            generalize hX : xs.getD ((j + t) % xs.length) 0 = x at *
            generalize hY : (rotN xs t).take j = ys at *
            generalize hM : (j + t) % xs.length = m at *
            clear hX hY hM
            clear hcv hsb hd50
            go_wp2_with (at_builtin; refine wpList_append_own _ rfl _ _ 23 rfl B2 24 i0 (.float .f64 0) 1 8 Try.underlying23 hi hz0 hz1 hz2 rfl (by decide) _ _ _ rfl (hO.out.alloc _) ⟨wr.heap.size, 0, none⟩ 1 1 [.float .f64 x] rfl rfl ?c1 ?c2 ?c3 ?c4 ?c5 ?_)
            case c1 =>
              intro j u hj
              match j, hj with
              | 0, hj => simp at hj; subst hj; simp [Addr.add]
            case c2 => intro u hu; simp at hu; subst hu; rfl
            case c3 => have := hLen.out; unfold maxLen; omega
            case c4 => have := hLen.out; omega
            case c5 => simp; omega
            intro v' w1 hown' hgrow _
            have R := own_app hnx2 hB2le hO.out hown' hgrow
            clear hown' hgrow hO hcell
            go_wp2
            go_roundw
            case rel => exact ⟨j + 1, by omega, by go_num, by rw [hts.out]; exact R.1, R.2⟩
            case measure => simp [intOf]; omega
          · have hfy : Hid ((rotN xs t).take j = rotN xs t) := Lib.hid (List.take_of_length_le (by rw [rotN_len]; omega))
            rw [hfy.out] at hown2
            have hF2 := Lib.hid (own_fsl hown2 (by rw [← hxs.out]; exact rotN_64 ns t hsm.out) (by rw [rotN_len]; omega))
            have hF1 := Lib.hid (hF.out.below hnx2 (fun k hk => by have := (hown.lt k hk).2; have := hB2.out; omega))
            have hbel : Hid (Below w.heap.size w wr) := by
              refine Lib.hid ?_
              rw [← hB.out]
              exact hnx.trans (hnx2.mono (by have := hB2.out; omega))
            have hcvS : floatOfInt .f64 ns.sum = enc ns.sum := rfl
            have hcvL : floatOfInt .f64 (xs.length : Int) = enc (xs.length : Int) := rfl
            have hs1 : Hid (sumO xs = some (enc ns.sum)) := Lib.hid (by rw [← hxs.out]; exact sumO_whole hsm.out)
            have hs2 : Hid (sumO (rotN xs t) = some (enc ns.sum)) := Lib.hid (by rw [← hxs.out]; exact rotN_sum ns t hsm.out)
            have hne : (FloatKind.f64.format.order (enc ns.sum) (enc ns.sum) != some .eq) = false := by rw [neq_self]; exact nanB_whole hsm.out.sum
            have hend : Hid (xs ≠ [] → ∃ r lo hi, fOp .quo (enc ns.sum) (enc (xs.length : Int)) = some r ∧ meanO xs = some r ∧ rung r ≤ INF
                ∧ bestO (-1) posInf xs = some lo ∧ bestO 1 negInf xs = some hi
                ∧ (FloatKind.f64.format.order r lo == some .gt || FloatKind.f64.format.order r lo == some .eq) = true
                ∧ (FloatKind.f64.format.order r hi == some .lt || FloatKind.f64.format.order r hi == some .eq) = true) := Lib.hid (by
              intro h0
              rw [← hxs.out] at h0 ⊢
              have := mean_whole hsm.out (fun e => h0 (by rw [e]; rfl))
              rw [List.length_map]; exact this)
            clear hfy hown2 hown hc hF hd50 hcv
            generalize enc ns.sum = s0 at *
            generalize enc (xs.length : Int) = l0 at *
            by_cases hx0 : xs = []
            · have hl : (((xs.length : Nat) : Int) == 0) = true := by rw [hx0]; rfl
              clear hend hx0
              go_wp2_with fail
              refine (sum_any _ _ _ hF1.out).mono ?_
              rintro e w' ⟨r, n, rfl, rfl, hg⟩
              rw [hs1.out] at hg
              obtain rfl : r = s0 := hg.2
              clear hg
              go_wp2_with fail
              refine (sum_any _ _ _ (hF2.out.drewN n)).mono ?_
              rintro e w' ⟨r2, n2, rfl, rfl, hg⟩
              rw [hs2.out] at hg
              obtain rfl : r2 = r := hg.2
              clear hg
              go_wp2_with fail
              refine (awake_any _).mono ?_
              rintro e w' ⟨rfl, hb⟩
              have HB := Lib.hid hb
              clear hb
              go_wp2
              go_ret
              refine ⟨rfl, ?_⟩
              have h1 := hbel.out.size
              exact (below_drewN hbel.out _).trans (HB.out.mono (by simpa using h1))
            · have hl : (((xs.length : Nat) : Int) == 0) = false := by
                have := List.length_pos_iff.2 hx0
                simp; omega
              obtain ⟨r0, lo, hi', q1, q2, q3, q4, q5, q6, q7⟩ := hend.out hx0
              have hquo : ∀ (t : TypeId) (w : World), (binOp .quo t (.float .f64 s0) (.float .f64 l0)).run Try.prog w = .ok (.float .f64 r0) w := fun t w => run_float_arith w .quo t .f64 s0 l0 r0 q1
              have hrr : FloatKind.f64.format.order r0 r0 = some .eq := order_self.2 q3
              have Q2 := Lib.hid q2
              have Q4 := Lib.hid q4
              have Q5 := Lib.hid q5
              clear hend hx0 q1 q2 q3 q4 q5
              go_wp2_with fail
              refine (sum_any _ _ _ hF1.out).mono ?_
              rintro e w' ⟨r, n, rfl, rfl, hg⟩
              rw [hs1.out] at hg
              obtain rfl : r = s0 := hg.2
              clear hg
              go_wp2_with fail
              refine (sum_any _ _ _ (hF2.out.drewN n)).mono ?_
              rintro e w' ⟨r2, n2, rfl, rfl, hg⟩
              rw [hs2.out] at hg
              obtain rfl : r2 = r := hg.2
              clear hg
              go_wp2_with fail
              refine (mean_any _ _ _ (hF1.out.drewN _)).mono ?_
              rintro e w' ⟨m, n3, rfl, rfl, hg⟩
              rw [Q2.out] at hg
              obtain rfl : m = r0 := hg.2
              clear hg
              go_wp2_with fail
              refine (min_any _ _ _ (hF1.out.drewN _)).mono ?_
              rintro e w' ⟨lo', rfl, rfl, hg⟩
              rw [Q4.out] at hg
              obtain rfl : lo' = lo := hg.2
              clear hg
              go_wp2_with fail
              refine (max_any _ _ _ (hF1.out.drewN _)).mono ?_
              rintro e w' ⟨hi2, rfl, rfl, hg⟩
              rw [Q5.out] at hg
              obtain rfl : hi2 = hi' := hg.2
              clear hg
              go_wp2_with fail
              refine (awake_any _).mono ?_
              rintro e w' ⟨rfl, hb⟩
              have HB := Lib.hid hb
              clear hb
              go_wp2
              go_ret
              refine ⟨rfl, ?_⟩
              have h1 := hbel.out.size
              exact (below_drewN hbel.out _).trans (HB.out.mono (by simpa using h1))

end Go.Proofs.Ytohkjjmknpbdaaa
