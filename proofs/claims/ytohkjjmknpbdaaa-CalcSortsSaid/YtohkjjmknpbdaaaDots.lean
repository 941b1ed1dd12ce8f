/- Sums of products: each call's end. -/
import Derived.Test.YtohkjjmknpbdaaaMore
import Derived.StillTailTactics
namespace Go.Proofs.Ytohkjjmknpbdaaa
open Go.RowKit Fl

def dotStep (acc : Option Nat) (p : Nat × Nat) : Option Nat := acc.bind fun s => (fOp .mul p.1 p.2).bind fun q => fOp .add s q
def dotO (xs ys : List Nat) : Option Nat := (xs.zip ys).foldl dotStep (some 0)

theorem gives_dot {o : Option Nat} {r q x y : Nat} (h : Gives o r) (hq : Gives (fOp .mul x y) q) (w : World) : Gives (dotStep o (x, y)) (fV .add w r q) := by
  unfold dotStep
  cases o with
  | some s =>
    have e : r = s := h.2
    subst e
    dsimp only [Option.bind_some]
    generalize hm : fOp .mul x y = m at *
    cases m with
    | some p =>
      have e2 : q = p := hq.2
      subst e2
      exact gives_f .add w r q
    | none =>
      have hn : INF < rung q := hq.2
      have e2 : fOp .add r q = none := add_nan_right hn r
      have := gives_f .add w r q
      rw [e2] at this
      exact this
  | none =>
    have hn : INF < rung r := h.2
    have e : fOp .add r q = none := add_nan_left hn q
    have := gives_f .add w r q
    rw [e] at this
    exact this

theorem dot_snoc (xs ys : List Nat) (k : Nat) (h1 : k < xs.length) (h2 : k < ys.length) :
    ((xs.zip ys).take (k + 1)).foldl dotStep (some 0) = dotStep (((xs.zip ys).take k).foldl dotStep (some 0)) (xs.getD k 0, ys.getD k 0) := by
  rw [List.take_succ_eq_append_getElem (by simp; omega), List.foldl_append]
  simp [List.getD, h1, h2]

def DotRel (xs ys : List Nat) (w : World) (s i : Value) (wr : World) : Prop :=
  ∃ k r n : Nat, k ≤ xs.length ∧ k ≤ ys.length ∧ i = .int .i64 k ∧ s = .float .f64 r ∧ Gives (((xs.zip ys).take k).foldl dotStep (some 0)) r ∧ wr = w.drewN n

theorem dot_end {xs ys : List Nat} {k r : Nat} (h : Gives (((xs.zip ys).take k).foldl dotStep (some 0)) r) (hk : k = min xs.length ys.length) : Gives (dotO xs ys) r := by
  unfold dotO
  rw [hk, ← List.length_zip, List.take_length] at h
  exact h

set_option maxHeartbeats 400000 in
theorem dot_some (xs ys : List Nat) (hl : xs.length ≤ 140737488355328) (_hl2 : ys.length ≤ 140737488355328) (b off c b2 off2 c2 : Nat) (w : World)
    (hc : ∀ i, i < xs.length → w.cell? ⟨b, off + i, none⟩ = some (.float .f64 (xs.getD i 0)))
    (hc2 : ∀ i, i < ys.length → w.cell? ⟨b2, off2 + i, none⟩ = some (.float .f64 (ys.getD i 0))) :
    Calls Try.prog 24 #[.slice (some ⟨b, off, none⟩) xs.length c, .slice (some ⟨b2, off2, none⟩) ys.length c2] w (SumEnd (dotO xs ys) w) := by
  have hadd := run_f .add (.inl rfl)
  have hmul := run_f .mul (.inr (.inl rfl))
  go_enter Try.func24, Try.ntmps24
  go_wp2
  all_goals
    go_loopw [5, 13] (fun s i wr => DotRel xs ys w s i wr) (fun _ i _ => xs.length - (intOf i).toNat)
    case atStart => exact ⟨0, 0, 0, Nat.zero_le _, Nat.zero_le _, rfl, rfl, ⟨by decide, rfl⟩, rfl⟩
    case round =>
      obtain ⟨k, r, n, hk, hk2, rfl, rfl, hg, rfl⟩ := hrel
      by_cases hlt : k < xs.length ∧ k < ys.length
      · obtain ⟨hlt1, hlt2⟩ := hlt
        have hcell := hc k hlt1
        have hcell2 := hc2 k hlt2
        have hsn := Lib.hid (dot_snoc xs ys k hlt1 hlt2)
        have hG := Lib.hid hg
        clear hc hc2 hg
        generalize hX : xs.getD k 0 = x at *
        generalize hY : ys.getD k 0 = y at *
        clear hX hY
        go_wp2
        refine wp_region_still_tail 8 (by kernel_rfl) (by kernel_rfl) ?_
        simp only [List.take_succ_cons, List.take_zero, List.drop_succ_cons, List.drop_zero]
        change wpStill _ _ (w.drewN (n + 1)) _ _ _
        repeat still_step
        refine wpStill_nil ?_
        change wpList _ _ _ _ _ (w.drewN (n + 1))
        go_wp2
        go_roundw
        case rel => exact ⟨k + 1, _, _, by omega, by omega, by go_num, rfl, by rw [hsn.out]; exact gives_dot hG.out (gives_f _ _ _ _) _, rfl⟩
        case measure => simp [intOf]; omega
      · have hg' := dot_end hg (by omega)
        clear hc hc2 hg
        have hge : ¬ (k < xs.length ∧ k < ys.length) := hlt
        have hd : (xs.length ≤ k ∨ ys.length ≤ k) := by omega
        go_wp2
        go_ret
        exact ⟨r, n, rfl, rfl, hg'⟩

set_option maxHeartbeats 400000 in
theorem dot_none (a1 a2 : Option Addr) (n1 n2 c1 c2 : Nat) (h : n1 = 0 ∨ n2 = 0) (w : World) :
    Calls Try.prog 24 #[.slice a1 n1 c1, .slice a2 n2 c2] w (SumEnd (some 0) w) := by
  have h1 : ¬ (0 < n1 ∧ 0 < n2) := by omega
  rcases h with rfl | rfl
  all_goals
    go_enter Try.func24, Try.ntmps24
    go_wp2
    all_goals
      go_loop [5, 6, 7, 13] (fun s j p i => s = .float .f64 0 ∧ i = .int .i64 0) (fun _ _ _ i => 0)
      case atStart => exact ⟨rfl, rfl⟩
      case round =>
        obtain ⟨rfl, rfl⟩ := hrel
        go_wp2
        go_ret
        exact ⟨0, 0, rfl, rfl, by decide, rfl⟩

theorem dotO_nil_left (ys : List Nat) : dotO [] ys = some 0 := rfl
theorem dotO_nil_right (xs : List Nat) : dotO xs [] = some 0 := by unfold dotO; rw [List.zip_nil_right]; rfl

theorem dot_any (v u : Value) (xs ys : List Nat) (w : World) (h : Fsl w v xs) (g : Fsl w u ys) : Calls Try.prog 24 #[v, u] w (SumEnd (dotO xs ys) w) := by
  obtain ⟨_, h2, h | h⟩ := h
  · obtain ⟨_, g2, g | g⟩ := g
    · obtain ⟨rfl, a, c, rfl⟩ := h
      obtain ⟨rfl, a2, c2, rfl⟩ := g
      exact dot_none _ _ _ _ _ _ (.inl rfl) w
    · obtain ⟨rfl, a, c, rfl⟩ := h
      obtain ⟨_, b2, off2, c2, rfl, hc2⟩ := g
      rw [dotO_nil_left]
      exact dot_none _ _ _ _ _ _ (.inl rfl) w
  · obtain ⟨_, g2, g | g⟩ := g
    · obtain ⟨_, b, off, c, rfl, hc⟩ := h
      obtain ⟨rfl, a2, c2, rfl⟩ := g
      rw [dotO_nil_right]
      exact dot_none _ _ _ _ _ _ (.inr rfl) w
    · obtain ⟨_, b, off, c, rfl, hc⟩ := h
      obtain ⟨_, b2, off2, c2, rfl, hc2⟩ := g
      exact dot_some xs ys h2 g2 b off c b2 off2 c2 w hc hc2

set_option maxHeartbeats 400000 in
theorem refDot_none (a1 a2 : Option Addr) (n1 n2 c1 c2 : Nat) (h : n1 = 0 ∨ n2 = 0) (w : World) :
    Calls Try.prog 29 #[.slice a1 n1 c1, .slice a2 n2 c2] w (SumEnd (some 0) w) := by
  by_cases h0 : 0 < n1
  · obtain rfl : n2 = 0 := by omega
    clear h
    go_enter Try.func29, Try.ntmps29
    go_wp2
    go_loop [5, 6] (fun s i => s = .float .f64 0 ∧ i = .int .i64 0) (fun _ i => 0)
    case atStart => exact ⟨rfl, rfl⟩
    case round =>
      obtain ⟨rfl, rfl⟩ := hrel
      go_wp2
      go_ret
      exact ⟨0, 0, rfl, rfl, by decide, rfl⟩
  · obtain rfl : n1 = 0 := by omega
    clear h h0
    go_enter Try.func29, Try.ntmps29
    go_wp2
    go_loop [5, 6] (fun s i => s = .float .f64 0 ∧ i = .int .i64 0) (fun _ i => 0)
    case atStart => exact ⟨rfl, rfl⟩
    case round =>
      obtain ⟨rfl, rfl⟩ := hrel
      go_wp2
      go_ret
      exact ⟨0, 0, rfl, rfl, by decide, rfl⟩

set_option maxHeartbeats 400000 in
theorem refDot_some (xs ys : List Nat) (hl : xs.length ≤ 140737488355328) (_hl2 : ys.length ≤ 140737488355328) (b off c b2 off2 c2 : Nat) (w : World)
    (hc : ∀ i, i < xs.length → w.cell? ⟨b, off + i, none⟩ = some (.float .f64 (xs.getD i 0)))
    (hc2 : ∀ i, i < ys.length → w.cell? ⟨b2, off2 + i, none⟩ = some (.float .f64 (ys.getD i 0))) :
    Calls Try.prog 29 #[.slice (some ⟨b, off, none⟩) xs.length c, .slice (some ⟨b2, off2, none⟩) ys.length c2] w (SumEnd (dotO xs ys) w) := by
  have hadd := run_f .add (.inl rfl)
  have hmul := run_f .mul (.inr (.inl rfl))
  go_enter Try.func29, Try.ntmps29
  go_wp2
  go_loopw [5, 6] (fun s i wr => DotRel xs ys w s i wr) (fun _ i _ => xs.length - (intOf i).toNat)
  case atStart => exact ⟨0, 0, 0, Nat.zero_le _, Nat.zero_le _, rfl, rfl, ⟨by decide, rfl⟩, rfl⟩
  case round =>
    obtain ⟨k, r, n, hk, hk2, rfl, rfl, hg, rfl⟩ := hrel
    by_cases hlt1 : k < xs.length
    · by_cases hlt2 : k < ys.length
      · have hcell := hc k hlt1
        have hcell2 := hc2 k hlt2
        have hsn := Lib.hid (dot_snoc xs ys k hlt1 hlt2)
        have hG := Lib.hid hg
        clear hc hc2 hg
        generalize hX : xs.getD k 0 = x at *
        generalize hY : ys.getD k 0 = y at *
        clear hX hY
        go_wp2
        go_region
        go_wp2
        go_roundw
        case rel => exact ⟨k + 1, _, _, by omega, by omega, by go_num, rfl, by rw [hsn.out]; exact gives_dot hG.out (gives_f _ _ _ _) _, rfl⟩
        case measure => simp [intOf]; omega
      · have hg' := dot_end hg (by omega)
        clear hc hc2 hg
        go_wp2
        go_ret
        exact ⟨r, n, rfl, rfl, hg'⟩
    · have hg' := dot_end hg (by omega)
      clear hc hc2 hg
      go_wp2
      go_ret
      exact ⟨r, n, rfl, rfl, hg'⟩

theorem refDot_any (v u : Value) (xs ys : List Nat) (w : World) (h : Fsl w v xs) (g : Fsl w u ys) : Calls Try.prog 29 #[v, u] w (SumEnd (dotO xs ys) w) := by
  obtain ⟨_, h2, h | h⟩ := h
  · obtain ⟨_, g2, g | g⟩ := g
    · obtain ⟨rfl, a, c, rfl⟩ := h
      obtain ⟨rfl, a2, c2, rfl⟩ := g
      exact refDot_none _ _ _ _ _ _ (.inl rfl) w
    · obtain ⟨rfl, a, c, rfl⟩ := h
      obtain ⟨_, b2, off2, c2, rfl, hc2⟩ := g
      rw [dotO_nil_left]
      exact refDot_none _ _ _ _ _ _ (.inl rfl) w
  · obtain ⟨_, g2, g | g⟩ := g
    · obtain ⟨_, b, off, c, rfl, hc⟩ := h
      obtain ⟨rfl, a2, c2, rfl⟩ := g
      rw [dotO_nil_right]
      exact refDot_none _ _ _ _ _ _ (.inr rfl) w
    · obtain ⟨_, b, off, c, rfl, hc⟩ := h
      obtain ⟨_, b2, off2, c2, rfl, hc2⟩ := g
      exact refDot_some xs ys h2 g2 b off c b2 off2 c2 w hc hc2

/-- the four of them -/
def SpreadEnd (xs : List Nat) (w : World) (e : Ending) (w' : World) : Prop :=
  ∃ p q r t n, e = .returned (.tuple #[.float .f64 p, .float .f64 q, .float .f64 r, .float .f64 t]) ∧ w' = w.drewN n
    ∧ Gives (bestO (-1) posInf xs) p ∧ Gives (bestO 1 negInf xs) q ∧ Gives (sumO xs) r ∧ Gives (meanO xs) t

theorem Fsl.drewN {w : World} {v : Value} {xs : List Nat} (h : Fsl w v xs) (n : Nat) : Fsl (w.drewN n) v xs := h

set_option maxHeartbeats 400000 in
theorem spread_any (v : Value) (xs : List Nat) (w : World) (h : Fsl w v xs) : Calls Try.prog 21 #[v] w (SpreadEnd xs w) := by
  have H := Lib.hid h
  clear h
  go_enter Try.func21, Try.ntmps21
  go_wp2_with fail
  refine (min_any _ _ _ H.out).mono ?_
  rintro e w' ⟨p, rfl, rfl, hp⟩
  go_wp2_with fail
  refine (max_any _ _ _ H.out).mono ?_
  rintro e w' ⟨q, rfl, rfl, hq⟩
  go_wp2_with fail
  refine (sum_any _ _ _ H.out).mono ?_
  rintro e w' ⟨r, n, rfl, rfl, hr⟩
  go_wp2_with fail
  refine (mean_any _ _ _ (H.out.drewN n)).mono ?_
  rintro e w' ⟨t, m, rfl, rfl, ht⟩
  go_wp2_with fail
  refine bodyPost_ret (v := .tuple #[.float .f64 p, .float .f64 q, .float .f64 r, .float .f64 t]) (by simp [results, Try.results21, go_sem]) rfl ⟨p, q, r, t, _, rfl, rfl, hp, hq, hr, ht⟩

end Go.Proofs.Ytohkjjmknpbdaaa
