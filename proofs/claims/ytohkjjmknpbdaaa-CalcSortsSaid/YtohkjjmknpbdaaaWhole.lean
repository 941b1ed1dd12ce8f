/- Whole numbers among floats: their sums, least, most, means, as whole numbers. Plain law: no walk here. -/
import Derived.Test.YtohkjjmknpbdaaaAwake
namespace Go.Proofs.Ytohkjjmknpbdaaa
open Go.RowKit Fl

theorem bits_and_mask (z : Int) (k : Nat) (hk : k < 63) : bits .and .i64 z ((2 ^ k - 1 : Nat) : Int) = z % ((2 ^ k : Nat) : Int) := by
  have hp := Nat.two_pow_pos k
  have hk2 : (2 : Nat) ^ k < 2 ^ 63 := Nat.pow_lt_pow_right (by omega) hk
  have h1 : (BitVec.ofInt 64 ((2 ^ k - 1 : Nat) : Int)).toNat = 2 ^ k - 1 := by
    rw [BitVec.toNat_ofInt]
    have : (((2 ^ k - 1 : Nat) : Int) % ((2 ^ 64 : Nat) : Int)) = ((2 ^ k - 1 : Nat) : Int) := Int.emod_eq_of_lt (by omega) (by omega)
    rw [this, Int.toNat_natCast]
  have h2 : ((BitVec.ofInt 64 z).toNat : Int) = z % ((2 ^ 64 : Nat) : Int) := by
    rw [BitVec.toNat_ofInt, Int.toNat_of_nonneg (Int.emod_nonneg _ (by omega))]
  have h3 : ((BitVec.ofInt 64 z &&& BitVec.ofInt 64 ((2 ^ k - 1 : Nat) : Int)).toNat : Int) = z % ((2 ^ k : Nat) : Int) := by
    rw [BitVec.toNat_and, h1, Nat.and_two_pow_sub_one_eq_mod, Int.natCast_emod, h2]
    exact Int.emod_emod_of_dvd z (by
      have : (2 : Nat) ^ k ∣ 2 ^ 64 := Nat.pow_dvd_pow 2 (by omega)
      exact Int.natCast_dvd_natCast.2 this)
  have h4 := Int.emod_nonneg z (b := ((2 ^ k : Nat) : Int)) (by omega)
  have h5 := Int.emod_lt_of_pos z (b := ((2 ^ k : Nat) : Int)) (by omega)
  show IntKind.i64.wrap ((BitVec.ofInt 64 z &&& BitVec.ofInt 64 ((2 ^ k - 1 : Nat) : Int)).toNat : Int) = _
  rw [h3]
  exact IntWalk.i64_in _ (by omega)

theorem and20 (z : Int) : bits .and .i64 z 1048575 = z % 1048576 := bits_and_mask z 20 (by omega)
theorem and16 (z : Int) : bits .and .i64 z 65535 = z % 65536 := bits_and_mask z 16 (by omega)

/-- small whole numbers -/
def Small (ns : List Int) : Prop := ns.length ≤ 100 ∧ ∀ n ∈ ns, n.natAbs ≤ 2 ^ 40

theorem sum_bound : ∀ (ns : List Int), (∀ n ∈ ns, n.natAbs ≤ 2 ^ 40) → ns.sum.natAbs ≤ ns.length * 2 ^ 40
  | [], _ => by simp
  | n :: ns, h => by
    have h1 := sum_bound ns (fun m hm => h m (by simp [hm]))
    have h2 := h n (by simp)
    rw [List.sum_cons, List.length_cons, Nat.add_mul]
    omega

theorem Small.sum {ns : List Int} (h : Small ns) : ns.sum.natAbs < 2 ^ 53 := by
  have := sum_bound ns h.2
  have h2 : ns.length * 2 ^ 40 ≤ 100 * 2 ^ 40 := Nat.mul_le_mul_right _ h.1
  omega

theorem fOp_add_whole {a b : Int} (ha : a.natAbs < 2 ^ 53) (hb : b.natAbs < 2 ^ 53) (hc : (a + b).natAbs < 2 ^ 53) : fOp .add (enc a) (enc b) = some (enc (a + b)) := add_whole ha hb hc

theorem foldl_whole : ∀ (ns : List Int) (a : Int) (c : Nat), (∀ n ∈ ns, n.natAbs ≤ 2 ^ 40) → a.natAbs ≤ c * 2 ^ 40 → c + ns.length ≤ 100 →
    (ns.map enc).foldl sumStep (some (enc a)) = some (enc (a + ns.sum))
  | [], a, _, _, _, _ => by simp
  | n :: ns, a, c, h, ha, hc => by
    have h2 := h n (by simp)
    simp only [List.length_cons] at hc
    have hc2 : c * 2 ^ 40 ≤ 100 * 2 ^ 40 := Nat.mul_le_mul_right _ (by omega)
    have e : sumStep (some (enc a)) (enc n) = some (enc (a + n)) := fOp_add_whole (by omega) (by omega) (by omega)
    rw [List.map_cons, List.foldl_cons, e, foldl_whole ns (a + n) (c + 1) (fun m hm => h m (by simp [hm])) (by omega) (by omega), List.sum_cons, Int.add_assoc]

/-- SUMS OF SMALL WHOLE NUMBERS ARE EXACT. -/
theorem sumO_whole {ns : List Int} (h : Small ns) : sumO (ns.map enc) = some (enc ns.sum) := by
  have := foldl_whole ns 0 0 h.2 (by simp) (by have := h.1; omega)
  rw [enc_zero, Int.zero_add] at this
  exact this

theorem nanB_whole {n : Int} (h : n.natAbs < 2 ^ 53) : nanB (enc n) = false := nanB_false (Nat.le_of_lt (enc_whole h).fin)

theorem units_mono {r q : Nat} : units r < units q ↔ r < q := by
  constructor
  · intro h
    rcases Nat.lt_or_ge r q with h1 | h1
    · exact h1
    · have := units_le h1; omega
  · exact units_lt

/-- a number's word among others, by sign and rung -/
theorem code_form {b : Nat} (hb : b < 2 ^ 64) (hn : nanB b = false) : code b = if sg b = true then 9223372036854775807 - rung b else 9223372036854775808 + rung b := by
  have hr : rung b < 2 ^ 63 := Nat.mod_lt _ (by omega)
  have hw := word_of hb
  unfold Ieee.Format.word at hw
  rw [d_sign] at hw
  by_cases hs : sg b = true
  · rw [code_neg hn hs, if_pos hs]
    rw [if_pos hs] at hw
    omega
  · rw [if_neg hs]
    rw [if_neg hs] at hw
    have hs' : sg b = false := by simpa using hs
    rw [code_pos hn hs']
    omega

theorem code_whole_lt {a b : Int} (ha : a.natAbs < 2 ^ 53) (hb : b.natAbs < 2 ^ 53) (h : a < b) : code (enc a) < code (enc b) := by
  have wa := enc_whole ha
  have wb := enc_whole hb
  have ua := units_of_whole wa
  have ub := units_of_whole wb
  have ra : rung (enc a) < 2 ^ 63 := Nat.mod_lt _ (by omega)
  rw [code_form wa.lt (nanB_whole ha), code_form wb.lt (nanB_whole hb), wa.sg, wb.sg]
  have key : ∀ c d : Int, c.natAbs < d.natAbs → units (rung (enc c)) = c.natAbs * P → units (rung (enc d)) = d.natAbs * P → rung (enc c) < rung (enc d) := by
    intro c d hcd h1 h2
    rw [← units_mono, h1, h2]
    exact Nat.mul_lt_mul_of_pos_right hcd P_pos'
  by_cases h1 : a < 0
  · by_cases h2 : b < 0
    · have := key b a (by omega) ub ua
      simp [h1, h2]; omega
    · simp [h1, h2]; omega
  · have := key a b (by omega) ua ub
    have h2 : ¬ b < 0 := by omega
    simp [h1, h2]; omega

theorem cmpN_whole {a b : Int} (ha : a.natAbs < 2 ^ 53) (hb : b.natAbs < 2 ^ 53) : cmpN (code (enc a)) (code (enc b)) = if a < b then -1 else if b < a then 1 else 0 := by
  unfold cmpN
  rcases Int.lt_trichotomy a b with h | h | h
  · have := code_whole_lt ha hb h
    rw [if_pos this, if_pos h]
  · subst h; simp
  · have := code_whole_lt hb ha h
    rw [if_neg (by omega), if_pos this, if_neg (by omega), if_pos h]

theorem fin_infs {b : Nat} (hb : b < 2 ^ 64) (hf : rung b < INF) : code b < code posInf ∧ code negInf < code b := by
  have h1 : code posInf = 9223372036854775808 + 9218868437227405312 := by decide +kernel
  have h2 : code negInf = 9223372036854775807 - 9218868437227405312 := by decide +kernel
  have hI : INF = 9218868437227405312 := by decide
  rw [code_form hb (nanB_false (Nat.le_of_lt hf)), h1, h2]
  split <;> omega

def leastOf (ns : List Int) (a : Int) : Int := ns.foldl (fun m n => if n < m then n else m) a
def mostOf (ns : List Int) (a : Int) : Int := ns.foldl (fun m n => if m < n then n else m) a

theorem least_whole : ∀ (ns : List Int) (a : Int), (∀ n ∈ ns, n.natAbs < 2 ^ 53) → a.natAbs < 2 ^ 53 →
    bestO (-1) (enc a) (ns.map enc) = some (enc (leastOf ns a))
  | [], a, _, _ => rfl
  | n :: ns, a, h, ha => by
    have hn := h n (by simp)
    have hrest : ∀ m ∈ ns, m.natAbs < 2 ^ 53 := fun m hm => h m (by simp [hm])
    have e : bestStep (-1) (some (enc a)) (enc n) = some (enc (if n < a then n else a)) := by
      unfold bestStep
      simp only [Option.bind_some, nanB_whole hn, cmpN_whole hn ha]
      by_cases h1 : n < a
      · simp [h1]
      · by_cases h2 : a < n <;> simp [h1, h2]
    have := least_whole ns (if n < a then n else a) hrest (by split <;> assumption)
    unfold bestO at this ⊢
    rw [List.map_cons, List.foldl_cons, e, this]
    rfl

theorem most_whole : ∀ (ns : List Int) (a : Int), (∀ n ∈ ns, n.natAbs < 2 ^ 53) → a.natAbs < 2 ^ 53 →
    bestO 1 (enc a) (ns.map enc) = some (enc (mostOf ns a))
  | [], a, _, _ => rfl
  | n :: ns, a, h, ha => by
    have hn := h n (by simp)
    have hrest : ∀ m ∈ ns, m.natAbs < 2 ^ 53 := fun m hm => h m (by simp [hm])
    have e : bestStep 1 (some (enc a)) (enc n) = some (enc (if a < n then n else a)) := by
      unfold bestStep
      simp only [Option.bind_some, nanB_whole hn, cmpN_whole hn ha]
      by_cases h1 : n < a
      · have h2 : ¬ a < n := by omega
        simp [h1, h2]
      · by_cases h2 : a < n <;> simp [h1, h2]
    have := most_whole ns (if a < n then n else a) hrest (by split <;> assumption)
    unfold bestO at this ⊢
    rw [List.map_cons, List.foldl_cons, e, this]
    rfl

theorem least_cons (n : Int) (ns : List Int) (h : ∀ m ∈ n :: ns, m.natAbs < 2 ^ 53) : bestO (-1) posInf ((n :: ns).map enc) = some (enc (leastOf ns n)) := by
  have hn := h n (by simp)
  have wn := enc_whole hn
  have e : bestStep (-1) (some posInf) (enc n) = some (enc n) := by
    unfold bestStep
    have h1 := (fin_infs wn.lt wn.fin).1
    have h2 : cmpN (code (enc n)) (code posInf) = -1 := by unfold cmpN; rw [if_pos h1]
    simp [nanB_whole hn, h2]
  have := least_whole ns n (fun m hm => h m (by simp [hm])) hn
  unfold bestO at this ⊢
  rw [List.map_cons, List.foldl_cons, e, this]

theorem most_cons (n : Int) (ns : List Int) (h : ∀ m ∈ n :: ns, m.natAbs < 2 ^ 53) : bestO 1 negInf ((n :: ns).map enc) = some (enc (mostOf ns n)) := by
  have hn := h n (by simp)
  have wn := enc_whole hn
  have e : bestStep 1 (some negInf) (enc n) = some (enc n) := by
    unfold bestStep
    have h1 := (fin_infs wn.lt wn.fin).2
    have h2 : cmpN (code (enc n)) (code negInf) = 1 := by unfold cmpN; rw [if_neg (by omega), if_pos h1]
    simp [nanB_whole hn, h2]
  have := most_whole ns n (fun m hm => h m (by simp [hm])) hn
  unfold bestO at this ⊢
  rw [List.map_cons, List.foldl_cons, e, this]

theorem leastOf_le : ∀ (ns : List Int) (a : Int), leastOf ns a ≤ a ∧ (∀ n ∈ ns, leastOf ns a ≤ n) ∧ (leastOf ns a = a ∨ leastOf ns a ∈ ns)
  | [], a => ⟨Int.le_refl _, by simp, .inl rfl⟩
  | n :: ns, a => by
    have e : leastOf (n :: ns) a = leastOf ns (if n < a then n else a) := rfl
    rw [e]
    by_cases hc : n < a
    · rw [if_pos hc]
      obtain ⟨h1, h2, h3⟩ := leastOf_le ns n
      refine ⟨by omega, ?_, ?_⟩
      · intro m hm
        rcases List.mem_cons.1 hm with rfl | hm
        · exact h1
        · exact h2 m hm
      · rcases h3 with h3 | h3
        · exact .inr (by rw [h3]; simp)
        · exact .inr (by simp [h3])
    · rw [if_neg hc]
      obtain ⟨h1, h2, h3⟩ := leastOf_le ns a
      refine ⟨h1, ?_, ?_⟩
      · intro m hm
        rcases List.mem_cons.1 hm with rfl | hm
        · omega
        · exact h2 m hm
      · rcases h3 with h3 | h3
        · exact .inl h3
        · exact .inr (by simp [h3])

theorem mostOf_ge : ∀ (ns : List Int) (a : Int), a ≤ mostOf ns a ∧ (∀ n ∈ ns, n ≤ mostOf ns a) ∧ (mostOf ns a = a ∨ mostOf ns a ∈ ns)
  | [], a => ⟨Int.le_refl _, by simp, .inl rfl⟩
  | n :: ns, a => by
    have e : mostOf (n :: ns) a = mostOf ns (if a < n then n else a) := rfl
    rw [e]
    by_cases hc : a < n
    · rw [if_pos hc]
      obtain ⟨h1, h2, h3⟩ := mostOf_ge ns n
      refine ⟨by omega, ?_, ?_⟩
      · intro m hm
        rcases List.mem_cons.1 hm with rfl | hm
        · exact h1
        · exact h2 m hm
      · rcases h3 with h3 | h3
        · exact .inr (by rw [h3]; simp)
        · exact .inr (by simp [h3])
    · rw [if_neg hc]
      obtain ⟨h1, h2, h3⟩ := mostOf_ge ns a
      refine ⟨h1, ?_, ?_⟩
      · intro m hm
        rcases List.mem_cons.1 hm with rfl | hm
        · omega
        · exact h2 m hm
      · rcases h3 with h3 | h3
        · exact .inl h3
        · exact .inr (by simp [h3])

theorem sum_between (lo hi : Int) : ∀ (ns : List Int), (∀ n ∈ ns, lo ≤ n ∧ n ≤ hi) → (ns.length : Int) * lo ≤ ns.sum ∧ ns.sum ≤ (ns.length : Int) * hi
  | [], _ => by simp
  | n :: ns, h => by
    obtain ⟨h1, h2⟩ := sum_between lo hi ns (fun m hm => h m (by simp [hm]))
    obtain ⟨h3, h4⟩ := h n (by simp)
    rw [List.sum_cons, List.length_cons, Int.natCast_add, Int.add_mul, Int.add_mul]
    constructor <;> simp <;> omega

end Go.Proofs.Ytohkjjmknpbdaaa
