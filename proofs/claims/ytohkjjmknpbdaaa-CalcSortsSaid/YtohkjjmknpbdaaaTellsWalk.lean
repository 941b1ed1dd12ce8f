/- The law 'CalcTells', its walk: for the bits of whatever numbers the call returns true and writes nothing that was there. -/
import Derived.Test.YtohkjjmknpbdaaaWholesPlain
namespace Go.Proofs.Ytohkjjmknpbdaaa
open Go.RowKit Fl

set_option maxHeartbeats 400000 in
theorem floats_none (a : Option Addr) (c : Nat) (w : World) : Calls Try.prog 25 #[.slice a 0 c] w fun e w' => e = .returned (.slice none 0 0) ∧ w = w' := by
  go_enter Try.func25, Try.ntmps25
  go_wp2
  go_loop [3, 4] (fun s i => s = .slice none 0 0 ∧ i = .int .i64 0) (fun _ i => 0)
  case atStart => exact ⟨rfl, rfl⟩
  case round =>
    obtain ⟨rfl, rfl⟩ := hrel
    go_wp2
    go_ret
    exact ⟨rfl, rfl⟩

/-- the words that came in, as whole numbers -/
def words (zs : List Int) : List Nat := zs.map Int.toNat

theorem floats_any (a : Option Addr) (cap : Nat) (zs : List Int) (w : World) (hz : Ins .u64 w a zs) :
    Calls Try.prog 25 #[.slice a zs.length cap] w (FloatsEnd ((words zs).take 60) w) := by
  obtain ⟨h1, h2, h3⟩ := hz
  by_cases h0 : zs = []
  · subst h0
    refine (floats_none a cap w).mono ?_
    rintro e w' ⟨rfl, rfl⟩
    exact ⟨_, rfl, own_nil _ _, Below.refl _ _⟩
  · obtain ⟨b, off, rfl, hb, _⟩ := h3 0 (List.length_pos_iff.2 h0)
    have hl : zs.length = (words zs).length := by unfold words; simp
    rw [hl]
    refine floats_some (words zs) ?_ b off cap w hb ?_
    · unfold maxLen at h1; omega
    · intro i hi
      obtain ⟨b', off', he, _, hc⟩ := h3 i (by omega)
      simp only [Option.some.injEq, Addr.mk.injEq] at he
      obtain ⟨rfl, rfl, _⟩ := he
      rw [hc]
      have hi' : i < zs.length := by omega
      have hb := bounds_u64 (h2 zs[i] (List.getElem_mem hi'))
      unfold words
      simp only [List.getD, List.getElem?_map, List.getElem?_eq_getElem hi', Option.map_some, Option.getD_some]
      rw [Int.toNat_of_nonneg hb.1]

theorem words_64 {zs : List Int} (h : ∀ z ∈ zs, (Lit.int .u64 z).wf = true) : ∀ x ∈ (words zs).take 60, x < 18446744073709551616 := by
  intro x hx
  obtain ⟨z, hz, rfl⟩ := List.mem_map.1 (List.mem_of_mem_take hx)
  have := bounds_u64 (h z hz)
  omega

theorem own_shape' {w : World} {B : Nat} {v : Value} {xs : List Nat} (h : Own w B v xs) : ∃ a c, v = .slice a xs.length c := by
  rcases h.2 with ⟨rfl, h0⟩ | ⟨g, cap, cur, rfl, _⟩
  · rw [h0]; exact ⟨_, _, rfl⟩
  · exact ⟨_, _, rfl⟩

set_option maxHeartbeats 3200000 in
theorem tells_walk (a : Option Addr) (cap : Nat) (zs : List Int) (a2 : Option Addr) (cap2 : Nat) (zs2 : List Int) (w : World) (hz : Ins .u64 w a zs) (hz2 : Ins .u64 w a2 zs2) :
    Calls Try.prog 7 #[.slice a zs.length cap, .slice a2 zs2.length cap2] w fun e w' => e = .returned (.bool true) ∧ Below w.heap.size w w' := by
  have H1 := Lib.hid hz
  have H64 := Lib.hid (words_64 hz.2.1)
  have H642 := Lib.hid (words_64 hz2.2.1)
  have H2 : Hid (∀ w', Below w.heap.size w w' → Ins .u64 w' a2 zs2) := Lib.hid (by
    intro w' hb
    refine ⟨hz2.1, hz2.2.1, ?_⟩
    intro i hi
    obtain ⟨b, off, h1, h2, h3⟩ := hz2.2.2 i hi
    exact ⟨b, off, h1, Nat.lt_of_lt_of_le h2 hb.size, (hb.cell (p := ⟨b, off + i, none⟩) h2).trans h3⟩)
  clear hz hz2
  have hcv := enc_floatOfInt
  have hquo := run_f .quo (.inr (.inr rfl))
  obtain ⟨xs, hxs⟩ : ∃ xs, Hid ((words zs).take 60 = xs) := ⟨_, rfl⟩
  obtain ⟨ys, hys⟩ : ∃ ys, Hid ((words zs2).take 60 = ys) := ⟨_, rfl⟩
  have hxl : Hid (xs.length ≤ 60) := Lib.hid (by rw [← hxs.out]; simp; omega)
  have hyl : Hid (ys.length ≤ 60) := Lib.hid (by rw [← hys.out]; simp; omega)
  rw [hxs.out] at H64
  rw [hys.out] at H642
  go_enter Try.func7, Try.ntmps7
  go_wp2_with fail
  refine (floats_any _ _ _ _ H1.out).mono ?_
  rintro e w1 ⟨v, rfl, hown1, hb1⟩
  rw [hxs.out] at hown1
  have B1 := Lib.hid hb1
  have F1 := Lib.hid (own_fsl hown1 H64.out (by have := hxl.out; omega))
  obtain ⟨a5, c5, rfl⟩ := own_shape' hown1
  clear hb1 hown1
  go_wp2_with fail
  refine (floats_any _ _ _ _ (H2.out _ B1.out)).mono ?_
  rintro e w2 ⟨u, rfl, hown2, hb2⟩
  rw [hys.out] at hown2
  have B2 := Lib.hid (B1.out.trans (hb2.mono B1.out.size))
  have F2 := Lib.hid (own_fsl hown2 H642.out (by have := hyl.out; omega))
  have F1' := Lib.hid (F1.out.later hb2)
  clear hb2 hown2 F1 B1
  go_wp2_with fail
  refine (refSum_any _ _ _ F1'.out).mono ?_
  rintro e w' ⟨s, n1, rfl, rfl, hs⟩
  have HS := Lib.hid hs
  clear hs
  go_wp2_with fail
  refine (nan_any _).mono ?_
  rintro e w' ⟨rfl, rfl⟩
  by_cases hx0 : xs = []
  · have hl : ¬ (0 : Int) < (xs.length : Int) := by rw [hx0]; simp
    have HM : Hid (Gives (meanO xs) 9221120237041090561) := Lib.hid (by rw [hx0]; exact gives_nan)
    clear hx0
    go_wp2_with fail
    refine (sum_any _ _ _ (F1'.out.drewN _)).mono ?_
    rintro e w' ⟨r1, k1, rfl, rfl, hr1⟩
    have R1 := Lib.hid hr1
    clear hr1
    go_wp2_with fail
    refine (same_gives R1.out HS.out _).mono ?_
    rintro e w' ⟨rfl, rfl⟩
    go_wp2_with fail
    refine (mean_any _ _ _ (F1'.out.drewN _)).mono ?_
    rintro e w' ⟨r2, k2, rfl, rfl, hr2⟩
    have R2 := Lib.hid hr2
    clear hr2
    go_wp2_with fail
    refine (same_gives R2.out HM.out _).mono ?_
    rintro e w' ⟨rfl, rfl⟩
    go_wp2_with fail
    refine (min_any _ _ _ (F1'.out.drewN _)).mono ?_
    rintro e w' ⟨r3, rfl, rfl, hr3⟩
    have R3 := Lib.hid hr3
    clear hr3
    go_wp2_with fail
    refine (least_any _ _ _ (F1'.out.drewN _)).mono ?_
    rintro e w' ⟨r4, rfl, rfl, hr4⟩
    have R4 := Lib.hid hr4
    clear hr4
    go_wp2_with fail
    refine (same_gives R3.out R4.out _).mono ?_
    rintro e w' ⟨rfl, rfl⟩
    go_wp2_with fail
    refine (max_any _ _ _ (F1'.out.drewN _)).mono ?_
    rintro e w' ⟨r5, rfl, rfl, hr5⟩
    have R5 := Lib.hid hr5
    clear hr5
    go_wp2_with fail
    refine (most_any _ _ _ (F1'.out.drewN _)).mono ?_
    rintro e w' ⟨r6, rfl, rfl, hr6⟩
    have R6 := Lib.hid hr6
    clear hr6
    go_wp2_with fail
    refine (same_gives R5.out R6.out _).mono ?_
    rintro e w' ⟨rfl, rfl⟩
    go_wp2_with fail
    refine (spread_any _ _ _ (F1'.out.drewN _)).mono ?_
    rintro e w' ⟨p, q, r, t, k7, rfl, rfl, hp, hq, hr, ht⟩
    have HP := Lib.hid hp
    have HQ := Lib.hid hq
    have HR := Lib.hid hr
    have HT := Lib.hid ht
    clear hp hq hr ht
    go_wp2_with fail
    refine (dot_any _ _ _ _ _ (F1'.out.drewN _) (F2.out.drewN _)).mono ?_
    rintro e w' ⟨r8, k8, rfl, rfl, hr8⟩
    have R8 := Lib.hid hr8
    clear hr8
    go_wp2_with fail
    refine (refDot_any _ _ _ _ _ (F1'.out.drewN _) (F2.out.drewN _)).mono ?_
    rintro e w' ⟨r9, k9, rfl, rfl, hr9⟩
    have R9 := Lib.hid hr9
    clear hr9
    go_wp2_with fail
    refine (same_gives R8.out R9.out _).mono ?_
    rintro e w' ⟨rfl, rfl⟩
    go_wp2_with fail
    refine (least_any _ _ _ (F1'.out.drewN _)).mono ?_
    rintro e w' ⟨r10, rfl, rfl, hr10⟩
    have R10 := Lib.hid hr10
    clear hr10
    go_wp2_with fail
    refine (same_gives HP.out R10.out _).mono ?_
    rintro e w' ⟨rfl, rfl⟩
    go_wp2_with fail
    refine (most_any _ _ _ (F1'.out.drewN _)).mono ?_
    rintro e w' ⟨r11, rfl, rfl, hr11⟩
    have R11 := Lib.hid hr11
    clear hr11
    go_wp2_with fail
    refine (same_gives HQ.out R11.out _).mono ?_
    rintro e w' ⟨rfl, rfl⟩
    go_wp2_with fail
    refine (same_gives HR.out HS.out _).mono ?_
    rintro e w' ⟨rfl, rfl⟩
    go_wp2_with fail
    refine (same_gives HT.out HM.out _).mono ?_
    rintro e w' ⟨rfl, rfl⟩
    go_wp2_with fail
    refine (awake_any _).mono ?_
    rintro e w' ⟨rfl, hb⟩
    have HB := Lib.hid hb
    clear hb
    go_wp2
    go_ret
    exact ⟨rfl, (below_drewN B2.out _).trans (HB.out.mono (by have := B2.out.size; simpa using this))⟩
  · have hl : (0 : Int) < (xs.length : Int) := by have := List.length_pos_iff.2 hx0; omega
    have HM : Hid (Gives (meanO xs) (fV .quo (w2.drewN n1) s (enc (xs.length : Int)))) := Lib.hid (by
      unfold meanO
      rw [if_neg (by omega)]
      exact gives_quo HS.out _)
    clear hx0
    go_wp2_with fail
    refine (sum_any _ _ _ (F1'.out.drewN _)).mono ?_
    rintro e w' ⟨r1, k1, rfl, rfl, hr1⟩
    have R1 := Lib.hid hr1
    clear hr1
    go_wp2_with fail
    refine (same_gives R1.out HS.out _).mono ?_
    rintro e w' ⟨rfl, rfl⟩
    go_wp2_with fail
    refine (mean_any _ _ _ (F1'.out.drewN _)).mono ?_
    rintro e w' ⟨r2, k2, rfl, rfl, hr2⟩
    have R2 := Lib.hid hr2
    clear hr2
    go_wp2_with fail
    refine (same_gives R2.out HM.out _).mono ?_
    rintro e w' ⟨rfl, rfl⟩
    go_wp2_with fail
    refine (min_any _ _ _ (F1'.out.drewN _)).mono ?_
    rintro e w' ⟨r3, rfl, rfl, hr3⟩
    have R3 := Lib.hid hr3
    clear hr3
    go_wp2_with fail
    refine (least_any _ _ _ (F1'.out.drewN _)).mono ?_
    rintro e w' ⟨r4, rfl, rfl, hr4⟩
    have R4 := Lib.hid hr4
    clear hr4
    go_wp2_with fail
    refine (same_gives R3.out R4.out _).mono ?_
    rintro e w' ⟨rfl, rfl⟩
    go_wp2_with fail
    refine (max_any _ _ _ (F1'.out.drewN _)).mono ?_
    rintro e w' ⟨r5, rfl, rfl, hr5⟩
    have R5 := Lib.hid hr5
    clear hr5
    go_wp2_with fail
    refine (most_any _ _ _ (F1'.out.drewN _)).mono ?_
    rintro e w' ⟨r6, rfl, rfl, hr6⟩
    have R6 := Lib.hid hr6
    clear hr6
    go_wp2_with fail
    refine (same_gives R5.out R6.out _).mono ?_
    rintro e w' ⟨rfl, rfl⟩
    go_wp2_with fail
    refine (spread_any _ _ _ (F1'.out.drewN _)).mono ?_
    rintro e w' ⟨p, q, r, t, k7, rfl, rfl, hp, hq, hr, ht⟩
    have HP := Lib.hid hp
    have HQ := Lib.hid hq
    have HR := Lib.hid hr
    have HT := Lib.hid ht
    clear hp hq hr ht
    go_wp2_with fail
    refine (dot_any _ _ _ _ _ (F1'.out.drewN _) (F2.out.drewN _)).mono ?_
    rintro e w' ⟨r8, k8, rfl, rfl, hr8⟩
    have R8 := Lib.hid hr8
    clear hr8
    go_wp2_with fail
    refine (refDot_any _ _ _ _ _ (F1'.out.drewN _) (F2.out.drewN _)).mono ?_
    rintro e w' ⟨r9, k9, rfl, rfl, hr9⟩
    have R9 := Lib.hid hr9
    clear hr9
    go_wp2_with fail
    refine (same_gives R8.out R9.out _).mono ?_
    rintro e w' ⟨rfl, rfl⟩
    go_wp2_with fail
    refine (least_any _ _ _ (F1'.out.drewN _)).mono ?_
    rintro e w' ⟨r10, rfl, rfl, hr10⟩
    have R10 := Lib.hid hr10
    clear hr10
    go_wp2_with fail
    refine (same_gives HP.out R10.out _).mono ?_
    rintro e w' ⟨rfl, rfl⟩
    go_wp2_with fail
    refine (most_any _ _ _ (F1'.out.drewN _)).mono ?_
    rintro e w' ⟨r11, rfl, rfl, hr11⟩
    have R11 := Lib.hid hr11
    clear hr11
    go_wp2_with fail
    refine (same_gives HQ.out R11.out _).mono ?_
    rintro e w' ⟨rfl, rfl⟩
    go_wp2_with fail
    refine (same_gives HR.out HS.out _).mono ?_
    rintro e w' ⟨rfl, rfl⟩
    go_wp2_with fail
    refine (same_gives HT.out HM.out _).mono ?_
    rintro e w' ⟨rfl, rfl⟩
    go_wp2_with fail
    refine (awake_any _).mono ?_
    rintro e w' ⟨rfl, hb⟩
    have HB := Lib.hid hb
    clear hb
    go_wp2
    go_ret
    exact ⟨rfl, (below_drewN B2.out _).trans (HB.out.mono (by have := B2.out.size; simpa using this))⟩

end Go.Proofs.Ytohkjjmknpbdaaa
