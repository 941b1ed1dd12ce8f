/- Sums, products and quotients of floats: each call's end, draws and all. -/
import Derived.Test.YtohkjjmknpbdaaaBase
import Derived.Deep.Draws
namespace Go.Proofs.Ytohkjjmknpbdaaa
open Go.RowKit Fl

/-- The bits that an operation hands back where IEEE 754 fixes none. -/
def drawnNaN (w : World) (x y : Nat) : Nat := (Question.nanBits .f64 x y).cut (w.tape w.drawn (.nanBits .f64 x y))
theorem drawnNaN_nan (w : World) (x y : Nat) : INF < rung (drawnNaN w x y) ∧ drawnNaN w x y < 18446744073709551616 := by
  unfold drawnNaN Question.cut INF rung
  dsimp only
  generalize w.tape w.drawn (.nanBits .f64 x y) = t
  have h1 : t % 2 < 2 := Nat.mod_lt _ (by omega)
  have h2 : t / 2 % (2 ^ 52 - 1) < 2 ^ 52 - 1 := Nat.mod_lt _ (by omega)
  generalize t % 2 = a at *
  generalize t / 2 % (2 ^ 52 - 1) = b at *
  rw [show a * 2 ^ 63 + 9218868437227405312 + 1 + b = a * 2 ^ 63 + (9218868437227405312 + 1 + b) from by omega]
  rw [Nat.mul_add_mod_self_right, Nat.mod_eq_of_lt (by omega)]
  omega

def fOp (op : BinOp) (x y : Nat) : Option Nat := floatBits op .f64 x y
def fV (op : BinOp) (w : World) (x y : Nat) : Nat := match fOp op x y with | some r => r | none => drawnNaN w x y
def fK (op : BinOp) (x y : Nat) : Nat := match fOp op x y with | some _ => 0 | none => 1

theorem run_f (op : BinOp) (ho : op = .add ∨ op = .mul ∨ op = .quo) (t : TypeId) (x y : Nat) (w : World) :
    (binOp op t (.float .f64 x) (.float .f64 y)).run Try.prog w = .ok (.float .f64 (fV op w x y)) (w.drewN (fK op x y)) := by
  unfold fV fK
  cases h : fOp op x y with
  | some r => exact run_float_arith w op t .f64 x y r h
  | none =>
    unfold fOp floatBits at h
    rcases ho with rfl | rfl | rfl <;> simp only at h <;> simp [binOp, Op.floatArith, h, Question.forced, drawnNaN] <;> rfl

/-- What an operation gives: fixed bits, or some NaN's. -/
def Gives (o : Option Nat) (r : Nat) : Prop := r < 18446744073709551616 ∧ match o with | some s => r = s | none => INF < rung r

theorem gives_f (op : BinOp) (w : World) (x y : Nat) : Gives (fOp op x y) (fV op w x y) := by
  unfold fV Gives
  cases h : fOp op x y with
  | some r =>
    have := floatBits_wf (k := .f64) h
    simp [Lit.wf] at this
    exact ⟨this, rfl⟩
  | none => exact ⟨(drawnNaN_nan w x y).2, (drawnNaN_nan w x y).1⟩

/-- A list of floats in memory, read only. -/
def Fsl (w : World) (v : Value) (xs : List Nat) : Prop :=
  (∀ x ∈ xs, x < 18446744073709551616) ∧ xs.length ≤ 140737488355328 ∧
  ((xs = [] ∧ ∃ a c, v = .slice a 0 c) ∨
   (xs ≠ [] ∧ ∃ b off c, v = .slice (some ⟨b, off, none⟩) xs.length c ∧ ∀ i, i < xs.length → w.cell? ⟨b, off + i, none⟩ = some (.float .f64 (xs.getD i 0))))

def sumStep (acc : Option Nat) (x : Nat) : Option Nat := acc.bind fun a => fOp .add a x
def sumO (xs : List Nat) : Option Nat := xs.foldl sumStep (some 0)

def SumEnd (o : Option Nat) (w : World) (e : Ending) (w' : World) : Prop := ∃ r n, e = .returned (.float .f64 r) ∧ w' = w.drewN n ∧ Gives o r

set_option maxHeartbeats 400000 in
theorem sum_none (a : Option Addr) (c : Nat) (w : World) : Calls Try.prog 10 #[.slice a 0 c] w (SumEnd (some 0) w) := by
  go_enter Try.func10, Try.ntmps10
  go_wp2
  go_loop [3, 5, 8] (fun s x i => s = .float .f64 0 ∧ i = .int .i64 0) (fun _ _ i => 0)
  case atStart => exact ⟨rfl, rfl⟩
  case round =>
    obtain ⟨rfl, rfl⟩ := hrel
    go_wp2
    go_ret
    exact ⟨0, 0, rfl, rfl, by decide, rfl⟩

theorem sumO_snoc (xs : List Nat) (k : Nat) (h : k < xs.length) : (xs.take (k + 1)).foldl sumStep (some 0) = sumStep ((xs.take k).foldl sumStep (some 0)) (xs.getD k 0) := by
  rw [List.take_succ_eq_append_getElem h, List.foldl_append]
  simp [List.getD, h]

theorem gives_step {o : Option Nat} {r x : Nat} (h : Gives o r) (w : World) : Gives (sumStep o x) (fV .add w r x) := by
  cases o with
  | some s =>
    have e : r = s := h.2
    subst e
    exact gives_f .add w r x
  | none =>
    have hn : INF < rung r := h.2
    have e : fOp .add r x = none := add_nan_left hn x
    have := gives_f .add w r x
    rw [e] at this
    exact this

/-- the loop's relation -/
def SumRel (xs : List Nat) (w : World) (s i : Value) (wr : World) : Prop :=
  ∃ k r n : Nat, k ≤ xs.length ∧ i = .int .i64 k ∧ s = .float .f64 r ∧ Gives ((xs.take k).foldl sumStep (some 0)) r ∧ wr = w.drewN n

set_option maxHeartbeats 400000 in
theorem sum_some (xs : List Nat) (hl : xs.length ≤ 140737488355328) (b off c : Nat) (w : World)
    (hc : ∀ i, i < xs.length → w.cell? ⟨b, off + i, none⟩ = some (.float .f64 (xs.getD i 0))) :
    Calls Try.prog 10 #[.slice (some ⟨b, off, none⟩) xs.length c] w (SumEnd (sumO xs) w) := by
  have hadd := run_f .add (.inl rfl)
  go_enter Try.func10, Try.ntmps10
  go_wp2
  go_loopw [3, 8] (fun s i wr => SumRel xs w s i wr) (fun _ i _ => xs.length - (intOf i).toNat)
  case atStart => exact ⟨0, 0, 0, Nat.zero_le _, rfl, rfl, ⟨by decide, rfl⟩, rfl⟩
  case round =>
    obtain ⟨k, r, n, hk, rfl, rfl, hg, rfl⟩ := hrel
    by_cases hlt : k < xs.length
    · have hcell := hc k hlt
      have hg' := gives_step (x := xs.getD k 0) hg (w.drewN n)
      have hsn := Lib.hid (sumO_snoc xs k hlt)
      clear hc hg
      generalize hX : xs.getD k 0 = x at *
      clear hX
      go_wp2
      go_roundw
      case rel => exact ⟨k + 1, _, _, by omega, by go_num, rfl, by rw [hsn.out]; exact hg', rfl⟩
      case measure => simp [intOf]; omega
    · have hk' : k = xs.length := by omega
      have hg' : Gives (sumO xs) r := by
        unfold sumO
        rw [← List.take_length (l := xs)]
        rw [hk'] at hg; simpa using hg
      clear hc hg hk'
      go_wp2
      go_ret
      exact ⟨r, n, rfl, rfl, hg'⟩

theorem sum_any (v : Value) (xs : List Nat) (w : World) (h : Fsl w v xs) : Calls Try.prog 10 #[v] w (SumEnd (sumO xs) w) := by
  obtain ⟨_, h2, h | h⟩ := h
  · obtain ⟨rfl, a, c, rfl⟩ := h
    exact sum_none a c w
  · obtain ⟨_, b, off, c, rfl, hc⟩ := h
    exact sum_some xs h2 b off c w hc

set_option maxHeartbeats 400000 in
theorem refSum_none (a : Option Addr) (c : Nat) (w : World) : Calls Try.prog 26 #[.slice a 0 c] w (SumEnd (some 0) w) := by
  go_enter Try.func26, Try.ntmps26
  go_wp2
  go_loop [3, 4] (fun s i => s = .float .f64 0 ∧ i = .int .i64 0) (fun _ i => 0)
  case atStart => exact ⟨rfl, rfl⟩
  case round =>
    obtain ⟨rfl, rfl⟩ := hrel
    go_wp2
    go_ret
    exact ⟨0, 0, rfl, rfl, by decide, rfl⟩

set_option maxHeartbeats 400000 in
theorem refSum_some (xs : List Nat) (hl : xs.length ≤ 140737488355328) (b off c : Nat) (w : World)
    (hc : ∀ i, i < xs.length → w.cell? ⟨b, off + i, none⟩ = some (.float .f64 (xs.getD i 0))) :
    Calls Try.prog 26 #[.slice (some ⟨b, off, none⟩) xs.length c] w (SumEnd (sumO xs) w) := by
  have hadd := run_f .add (.inl rfl)
  go_enter Try.func26, Try.ntmps26
  go_wp2
  go_loopw [3, 4] (fun s i wr => SumRel xs w s i wr) (fun _ i _ => xs.length - (intOf i).toNat)
  case atStart => exact ⟨0, 0, 0, Nat.zero_le _, rfl, rfl, ⟨by decide, rfl⟩, rfl⟩
  case round =>
    obtain ⟨k, r, n, hk, rfl, rfl, hg, rfl⟩ := hrel
    by_cases hlt : k < xs.length
    · have hcell := hc k hlt
      have hg' := gives_step (x := xs.getD k 0) hg (w.drewN n)
      have hsn := Lib.hid (sumO_snoc xs k hlt)
      clear hc hg
      generalize hX : xs.getD k 0 = x at *
      clear hX
      go_wp2
      go_roundw
      case rel => exact ⟨k + 1, _, _, by omega, by go_num, rfl, by rw [hsn.out]; exact hg', rfl⟩
      case measure => simp [intOf]; omega
    · have hk' : k = xs.length := by omega
      have hg' : Gives (sumO xs) r := by
        unfold sumO
        rw [← List.take_length (l := xs)]
        rw [hk'] at hg; simpa using hg
      clear hc hg hk'
      go_wp2
      go_ret
      exact ⟨r, n, rfl, rfl, hg'⟩

theorem refSum_any (v : Value) (xs : List Nat) (w : World) (h : Fsl w v xs) : Calls Try.prog 26 #[v] w (SumEnd (sumO xs) w) := by
  obtain ⟨_, h2, h | h⟩ := h
  · obtain ⟨rfl, a, c, rfl⟩ := h
    exact refSum_none a c w
  · obtain ⟨_, b, off, c, rfl, hc⟩ := h
    exact refSum_some xs h2 b off c w hc

/-- a step of the search for the one that stands ahead of all others -/
def bestStep (ahead : Int) (acc : Option Nat) (x : Nat) : Option Nat := acc.bind fun m => if nanB x = true then none else if cmpN (code x) (code m) = ahead then some x else some m
def bestO (ahead : Int) (m : Nat) (xs : List Nat) : Option Nat := xs.foldl (bestStep ahead) (some m)

def BestEnd (o : Option Nat) (w : World) (e : Ending) (w' : World) : Prop := ∃ r, e = .returned (.float .f64 r) ∧ w = w' ∧ Gives o r

theorem gives_nan : Gives none 9221120237041090561 := ⟨by decide, by decide⟩

set_option maxHeartbeats 400000 in
theorem nan_any (w : World) : Calls Try.prog 16 #[] w fun e w' => e = .returned (.float .f64 9221120237041090561) ∧ w = w' := by
  have hb := frombits_any
  go_enter Try.func16, Try.ntmps16
  go_wp2
  go_ret
  exact ⟨rfl, rfl⟩

set_option maxHeartbeats 400000 in
theorem inf_up (w : World) : Calls Try.prog 15 #[.int .i64 1] w fun e w' => e = .returned (.float .f64 9218868437227405312) ∧ w = w' := by
  have hb := frombits_any
  go_enter Try.func15, Try.ntmps15
  go_wp2
  go_ret
  exact ⟨rfl, rfl⟩

set_option maxHeartbeats 400000 in
theorem inf_down (w : World) : Calls Try.prog 15 #[.int .i64 (-1)] w fun e w' => e = .returned (.float .f64 18442240474082181120) ∧ w = w' := by
  have hb := frombits_any
  go_enter Try.func15, Try.ntmps15
  go_wp2
  go_ret
  exact ⟨rfl, rfl⟩

theorem bestO_snoc (ahead : Int) (m : Nat) (xs : List Nat) (k : Nat) (h : k < xs.length) : (xs.take (k + 1)).foldl (bestStep ahead) (some m) = bestStep ahead ((xs.take k).foldl (bestStep ahead) (some m)) (xs.getD k 0) := by
  rw [List.take_succ_eq_append_getElem h, List.foldl_append]
  simp [List.getD, h]

theorem best_stays (ahead : Int) (xs : List Nat) : xs.foldl (bestStep ahead) none = none := by
  induction xs with
  | nil => rfl
  | cons x xs ih => simpa [bestStep] using ih

/-- once it is none it stays none -/
theorem bestO_none (ahead : Int) (m : Nat) (xs : List Nat) (k : Nat) (h : (xs.take k).foldl (bestStep ahead) (some m) = none) : bestO ahead m xs = none := by
  unfold bestO
  rw [← List.take_append_drop k xs, List.foldl_append, h, best_stays]

def BestRel (ahead : Int) (m0 : Nat) (xs : List Nat) (s i : Value) : Prop :=
  ∃ k m : Nat, k ≤ xs.length ∧ i = .int .i64 k ∧ s = .float .f64 m ∧ m < 18446744073709551616 ∧ (xs.take k).foldl (bestStep ahead) (some m0) = some m

theorem bestRel_end {ahead : Int} {m0 : Nat} {xs : List Nat} {m : Nat} {k : Nat} (h : k = xs.length) (hf : (xs.take k).foldl (bestStep ahead) (some m0) = some m) (hm : m < 18446744073709551616) : Gives (bestO ahead m0 xs) m := by
  rw [h] at hf
  unfold bestO
  rw [List.take_length] at hf
  rw [hf]; exact ⟨hm, rfl⟩

set_option maxHeartbeats 400000 in
theorem best_none (m : Nat) (hm : m < 18446744073709551616) (ahead : Int) (a : Option Addr) (c : Nat) (w : World) : Calls Try.prog 33 #[.slice a 0 c, .float .f64 m, .int .i64 ahead] w (BestEnd (some m) w) := by
  go_enter Try.func33, Try.ntmps33
  go_wp2
  go_loop [1, 8, 11] (fun s x i => s = .float .f64 m ∧ i = .int .i64 0) (fun _ _ i => 0)
  case atStart => exact ⟨rfl, rfl⟩
  case round =>
    obtain ⟨rfl, rfl⟩ := hrel
    go_wp2
    go_ret
    exact ⟨m, rfl, rfl, hm, rfl⟩

set_option maxHeartbeats 1000000 in
theorem best_some (m0 : Nat) (hm0 : m0 < 18446744073709551616) (ahead : Int) (xs : List Nat) (hx64 : ∀ x ∈ xs, x < 18446744073709551616) (hl : xs.length ≤ 140737488355328) (b off c : Nat) (w : World)
    (hc : ∀ i, i < xs.length → w.cell? ⟨b, off + i, none⟩ = some (.float .f64 (xs.getD i 0))) :
    Calls Try.prog 33 #[.slice (some ⟨b, off, none⟩) xs.length c, .float .f64 m0, .int .i64 ahead] w (BestEnd (bestO ahead m0 xs) w) := by
  go_enter Try.func33, Try.ntmps33
  go_wp2
  go_loop [1, 11] (fun s i => BestRel ahead m0 xs s i) (fun _ i => xs.length - (intOf i).toNat)
  case atStart => exact ⟨0, m0, Nat.zero_le _, rfl, rfl, hm0, rfl⟩
  case round =>
    obtain ⟨k, m, hk, rfl, rfl, hm, hf⟩ := hrel
    by_cases hlt : k < xs.length
    · have hcell := hc k hlt
      have hsn := Lib.hid (bestO_snoc ahead m0 xs k hlt)
      have hF := Lib.hid hf
      have hx0 : xs.getD k 0 < 18446744073709551616 := by
        rw [List.getD_eq_getElem?_getD, List.getElem?_eq_getElem hlt]; exact hx64 _ (List.getElem_mem _)
      have hno := Lib.hid (bestO_none ahead m0 xs (k + 1))
      clear hc hf hx64
      generalize hX : xs.getD k 0 = x at *
      clear hX
      by_cases hn : nanB x = true
      · have hnone : Hid (bestO ahead m0 xs = none) := Lib.hid (hno.out (by rw [hsn.out, hF.out]; simp [bestStep, hn]))
        clear hsn hF hno
        go_wp2_with (first | (go_at_call 42; refine (isNaN_any _ _).mono ?_; rintro e w' ⟨rfl, rfl⟩) | (go_at_call 16; refine (nan_any _).mono ?_; rintro e w' ⟨rfl, rfl⟩))
        go_ret
        exact ⟨_, rfl, rfl, by rw [hnone.out]; exact gives_nan⟩
      · have hn' : nanB x = false := by simpa using hn
        clear hn hno
        by_cases ha : cmpN (code x) (code m) = ahead
        · have hs : Hid ((xs.take (k + 1)).foldl (bestStep ahead) (some m0) = some x) := Lib.hid (by rw [hsn.out, hF.out]; simp [bestStep, hn', ha])
          have hd : (cmpN (code x) (code m) == ahead) = true := by simpa using ha
          clear hsn hF ha
          go_wp2_with (first | (go_at_call 42; refine (isNaN_any _ _).mono ?_; rintro e w' ⟨rfl, rfl⟩) | (go_at_call 20; refine (cmp_any _ _ (by assumption) (by assumption) _).mono ?_; rintro e w' ⟨rfl, rfl⟩))
          go_round
          case rel => exact ⟨k + 1, x, by omega, by go_num, rfl, hx0, hs.out⟩
          case measure => simp [intOf]; omega
        · have hs : Hid ((xs.take (k + 1)).foldl (bestStep ahead) (some m0) = some m) := Lib.hid (by rw [hsn.out, hF.out]; simp [bestStep, hn', ha])
          have hd : (cmpN (code x) (code m) == ahead) = false := by simpa using ha
          clear hsn hF ha
          go_wp2_with (first | (go_at_call 42; refine (isNaN_any _ _).mono ?_; rintro e w' ⟨rfl, rfl⟩) | (go_at_call 20; refine (cmp_any _ _ (by assumption) (by assumption) _).mono ?_; rintro e w' ⟨rfl, rfl⟩))
          go_round
          case rel => exact ⟨k + 1, m, by omega, by go_num, rfl, hm, hs.out⟩
          case measure => simp [intOf]; omega
    · have hg := bestRel_end (by omega) hf hm
      clear hc hf
      go_wp2
      go_ret
      exact ⟨m, rfl, rfl, hg⟩

theorem best_any (m0 : Nat) (hm0 : m0 < 18446744073709551616) (ahead : Int) (v : Value) (xs : List Nat) (w : World) (h : Fsl w v xs) :
    Calls Try.prog 33 #[v, .float .f64 m0, .int .i64 ahead] w (BestEnd (bestO ahead m0 xs) w) := by
  obtain ⟨h1, h2, h | h⟩ := h
  · obtain ⟨rfl, a, c, rfl⟩ := h
    exact best_none m0 hm0 ahead a c w
  · obtain ⟨_, b, off, c, rfl, hc⟩ := h
    exact best_some m0 hm0 ahead xs h1 h2 b off c w hc

def posInf : Nat := 9218868437227405312
def negInf : Nat := 18442240474082181120

end Go.Proofs.Ytohkjjmknpbdaaa
