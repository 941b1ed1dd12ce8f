/- The law 'CalcEdges', its plain part: sums, least and most of whole numbers with edges among them. -/
import Derived.Test.YtohkjjmknpbdaaaAppend
import Derived.Test.YtohkjjmknpbdaaaOnesWalk
namespace Go.Proofs.Ytohkjjmknpbdaaa
open Go.RowKit Fl

theorem sum_stays : ∀ (xs : List Nat), xs.foldl sumStep none = none
  | [] => rfl
  | x :: xs => by rw [List.foldl_cons]; exact sum_stays xs

theorem sum_nan {xs : List Nat} (x : Nat) (hx : nanB x = true) : ∀ (o : Option Nat) (_ : x ∈ xs), xs.foldl sumStep o = none := by
  induction xs with
  | nil => intro o h; cases h
  | cons y ys ih =>
    intro o h
    rw [List.foldl_cons]
    rcases List.mem_cons.1 h with rfl | h
    · have e : sumStep o x = none := by
        cases o with
        | none => rfl
        | some s => exact add_nan_right (of_nanB_true hx) s
      rw [e, sum_stays]
    · exact ih _ h

theorem sumO_nan {xs : List Nat} {x : Nat} (hx : nanB x = true) (h : x ∈ xs) : sumO xs = none := sum_nan x hx _ h

theorem best_nanL (ahead : Int) {xs : List Nat} (x : Nat) (hx : nanB x = true) : ∀ (o : Option Nat) (_ : x ∈ xs), xs.foldl (bestStep ahead) o = none := by
  induction xs with
  | nil => intro o h; cases h
  | cons y ys ih =>
    intro o h
    rw [List.foldl_cons]
    rcases List.mem_cons.1 h with rfl | h
    · have e : bestStep ahead o x = none := by
        cases o with
        | none => rfl
        | some s => simp [bestStep, hx]
      rw [e, best_stays]
    · exact ih _ h

theorem bestO_nan (ahead : Int) (m : Nat) {xs : List Nat} {x : Nat} (hx : nanB x = true) (h : x ∈ xs) : bestO ahead m xs = none := best_nanL ahead x hx _ h

/-- all are numbers, and words -/
def Nums (xs : List Nat) : Prop := ∀ x ∈ xs, x < 2 ^ 64 ∧ nanB x = false

theorem nums_enc {ns : List Int} (h : Small ns) : Nums (ns.map enc) := by
  intro x hx
  obtain ⟨n, hn, rfl⟩ := List.mem_map.1 hx
  have := h.2 n hn
  exact ⟨(enc_whole (by omega)).lt, nanB_whole (by omega)⟩

theorem best_num (ahead : Int) : ∀ (xs : List Nat) (m : Nat), Nums xs → m < 2 ^ 64 → nanB m = false → ∃ r, xs.foldl (bestStep ahead) (some m) = some r ∧ r < 2 ^ 64 ∧ nanB r = false
  | [], m, _, h1, h2 => ⟨m, rfl, h1, h2⟩
  | x :: xs, m, h, h1, h2 => by
    have hx := h x (by simp)
    have hr : Nums xs := fun y hy => h y (by simp [hy])
    have e : bestStep ahead (some m) x = some (if cmpN (code x) (code m) = ahead then x else m) := by
      unfold bestStep
      simp only [Option.bind_some, hx.2, Bool.false_eq_true, if_false]
      split <;> rfl
    rw [List.foldl_cons, e]
    split
    · exact best_num ahead xs x hr hx.1 hx.2
    · exact best_num ahead xs m hr h1 h2

theorem least_neg : ∀ (xs : List Nat), Nums xs → xs.foldl (bestStep (-1)) (some negInf) = some negInf
  | [], _ => rfl
  | x :: xs, h => by
    have hx := h x (by simp)
    have e : bestStep (-1) (some negInf) x = some negInf := by
      have h1 := (code_infs hx.1 hx.2).2
      have h2 : cmpN (code x) (code negInf) ≠ -1 := by
        unfold cmpN; rw [if_neg (by omega)]; split <;> omega
      unfold bestStep
      simp [hx.2, h2]
    rw [List.foldl_cons, e]
    exact least_neg xs (fun y hy => h y (by simp [hy]))

theorem nan_negInf : nanB negInf = false := by decide +kernel
theorem nan_posInf : nanB posInf = false := by decide +kernel

/-- the least, where minus infinity stands ahead -/
theorem min_down {xs : List Nat} (h : Nums xs) : bestO (-1) posInf (negInf :: xs) = some negInf := by
  unfold bestO
  rw [List.foldl_cons, min_first negInf_lt nan_negInf]
  exact least_neg xs h

/-- the most, where infinity stands behind -/
theorem max_up {xs : List Nat} (h : Nums xs) : bestO 1 negInf (xs ++ [posInf]) = some posInf := by
  unfold bestO
  obtain ⟨r, e, h1, h2⟩ := best_num 1 xs negInf h negInf_lt nan_negInf
  rw [List.foldl_append, e, List.foldl_cons, List.foldl_nil]
  have h3 := (code_infs h1 h2).1
  unfold bestStep
  simp only [Option.bind_some, nan_posInf, Bool.false_eq_true, if_false]
  by_cases hc : code r < code posInf
  · have e : cmpN (code posInf) (code r) = 1 := by unfold cmpN; rw [if_neg (by omega), if_pos hc]
    rw [if_pos e]
  · have e := code_inj h1 posInf_lt h2 nan_posInf (by omega)
    subst e
    split <;> rfl

theorem sum_up {ns : List Int} (h : Small ns) : sumO (ns.map enc ++ [posInf]) = some posInf := by
  have e := sumO_whole h
  unfold sumO at e ⊢
  rw [List.foldl_append, e, List.foldl_cons, List.foldl_nil]
  show fOp .add (enc ns.sum) posInf = some posInf
  have := add_fin_inf (enc_whole h.sum).fin (show rung posInf = INF by decide)
  rw [show D.word (sg posInf) INF = posInf from by decide +kernel] at this
  exact this

theorem sum_inf_fin : ∀ (xs : List Nat), (∀ x ∈ xs, rung x < INF) → xs.foldl sumStep (some negInf) = some negInf
  | [], _ => rfl
  | x :: xs, h => by
    have e : sumStep (some negInf) x = some negInf := by
      show fOp .add negInf x = some negInf
      have := add_inf_fin (show rung negInf = INF by decide) (h x (by simp))
      rw [show D.word (sg negInf) INF = negInf from by decide +kernel] at this
      exact this
    rw [List.foldl_cons, e]
    exact sum_inf_fin xs (fun y hy => h y (by simp [hy]))

theorem fin_enc {ns : List Int} (h : Small ns) : ∀ x ∈ ns.map enc, rung x < INF := by
  intro x hx
  obtain ⟨n, hn, rfl⟩ := List.mem_map.1 hx
  have := h.2 n hn
  exact (enc_whole (by omega)).fin

theorem sum_zero_neg : sumStep (some 0) negInf = some negInf := by decide +kernel

theorem sum_down {ns : List Int} (h : Small ns) : sumO (negInf :: ns.map enc) = some negInf := by
  unfold sumO
  rw [List.foldl_cons, sum_zero_neg]
  exact sum_inf_fin _ (fin_enc h)

theorem sum_both {ns : List Int} (h : Small ns) : sumO (negInf :: (ns.map enc ++ [posInf])) = none := by
  unfold sumO
  rw [List.foldl_cons, sum_zero_neg, List.foldl_append, sum_inf_fin _ (fin_enc h)]
  decide +kernel

theorem sum_negzero : sumO [9223372036854775808] = some 0 := by decide +kernel
theorem order_posInf : FloatKind.f64.format.order 9218868437227405312 9218868437227405312 = some .eq := by decide +kernel
theorem order_negInf : FloatKind.f64.format.order 18442240474082181120 18442240474082181120 = some .eq := by decide +kernel
theorem nan_nan : nanB 9221120237041090561 = true := by decide +kernel

/-- the whole numbers that the law makes of what came in -/
def whole30 (zs : List Int) : List Int := (zs.take 30).map fun z => z % 65536

theorem whole30_small (zs : List Int) : Small (whole30 zs) := by
  refine ⟨by unfold whole30; simp; omega, ?_⟩
  intro n hn
  unfold whole30 at hn
  obtain ⟨z, _, rfl⟩ := List.mem_map.1 hn
  omega

theorem whole30_len (zs : List Int) : (whole30 zs).length = min 30 zs.length := by unfold whole30; simp

theorem whole30_snoc (zs : List Int) (k : Nat) (h : k < zs.length) (h5 : k < 30) : (whole30 zs).take (k + 1) = (whole30 zs).take k ++ [zs.getD k 0 % 65536] := by
  unfold whole30
  have hl : k < ((zs.take 30).map fun z => z % 65536).length := by simp; omega
  rw [List.take_succ_eq_append_getElem hl]
  congr 2
  simp [List.getD, List.getElem?_eq_getElem h]

theorem part30_bound (zs : List Int) (k : Nat) : 0 ≤ ((whole30 zs).take k).sum ∧ ((whole30 zs).take k).sum ≤ 30 * 65535 := by
  have h := sum_between 0 65535 ((whole30 zs).take k) (by
    intro n hn
    have hn := List.mem_of_mem_take hn
    unfold whole30 at hn
    obtain ⟨z, _, rfl⟩ := List.mem_map.1 hn
    omega)
  have h2 : ((whole30 zs).take k).length ≤ 30 := by simp [whole30_len]; omega
  omega

/-- the list that the law makes, edges and all -/
def edges (nan up down : Bool) (ns : List Int) : List Nat :=
  (if down then [negInf] else []) ++ ns.map enc ++ (if up then [posInf] else []) ++ (if nan then [9221120237041090561] else [])

end Go.Proofs.Ytohkjjmknpbdaaa
