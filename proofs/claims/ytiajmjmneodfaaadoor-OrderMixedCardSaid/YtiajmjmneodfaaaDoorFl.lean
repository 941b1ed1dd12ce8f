/- Floats of 64 bits: each finite word is a whole number of units of 2^-1074; rounding keeps what is representable apart; so exact sums, products and quotients are what they ought to be. No condition: each lemma names its own. -/
import Ieee.Arith
import Derived.Laws.FloatBits
namespace Fl
open Ieee

/-- Half-even cut: never below a whole number that is not above. -/
theorem cut_ge (neg : Bool) (n drop m : Nat) (h : m * 2 ^ drop ≤ n) : m ≤ Toward.even.cut neg n drop := by
  unfold Toward.cut
  dsimp only
  rw [Nat.one_shiftLeft]
  refine Nat.le_trans ?_ (Nat.le_add_right _ _)
  rcases Nat.le_total drop (n.log2 + 2) with h1 | h1
  · rw [Nat.min_eq_left h1]
    exact (Nat.le_div_iff_mul_le (Nat.two_pow_pos _)).2 h
  · have h2 : n < 2 ^ drop := Nat.lt_of_lt_of_le Nat.lt_log2_self (Nat.pow_le_pow_right (by omega) (by omega))
    have : m = 0 := by
      rcases Nat.eq_zero_or_pos m with h3 | h3
      · exact h3
      · have := Nat.le_mul_of_pos_left (2 ^ drop) h3
        omega
    rw [this]; exact Nat.zero_le _

theorem cut_le (neg : Bool) (n drop m : Nat) (h : n ≤ m * 2 ^ drop) : Toward.even.cut neg n drop ≤ m := by
  unfold Toward.cut
  dsimp only
  rw [Nat.one_shiftLeft]
  rcases Nat.le_total drop (n.log2 + 2) with h1 | h1
  · rw [Nat.min_eq_left h1]
    have hp := Nat.two_pow_pos drop
    generalize hg : 2 ^ drop = g at *
    have hd := Nat.div_add_mod n g
    have hm := Nat.mod_lt n hp
    by_cases hlt : n / g < m
    · refine Nat.le_trans (Nat.add_le_add_left (Bool.toNat_le _) _) (by omega)
    · have hge : m ≤ n / g := by omega
      have h3 : m * g ≤ g * (n / g) := by rw [Nat.mul_comm]; exact Nat.mul_le_mul_left _ hge
      have h4 : n % g = 0 := by omega
      have h5 : n / g ≤ m := by
        rw [h4] at hd
        refine Nat.le_of_mul_le_mul_left (?_ : g * (n / g) ≤ g * m) hp
        rw [Nat.mul_comm g m]; omega
      have h6 : (g == 0) = false := by simp; omega
      rw [h4]; simp [h6]; omega
  · rw [Nat.min_eq_right h1]
    have h2 : n < 2 ^ (n.log2 + 1) := Nat.lt_log2_self
    have h3 : 2 ^ (n.log2 + 2) = 2 * 2 ^ (n.log2 + 1) := by rw [Nat.pow_succ _ (n.log2 + 1)]; omega
    generalize 2 ^ (n.log2 + 2) = g at *
    rw [Nat.div_eq_of_lt (by omega), Nat.mod_eq_of_lt (by omega)]
    have h4 : ¬ g < 2 * n := by omega
    have h5 : (g == 2 * n) = false := by simp; omega
    simp [h4, h5]

abbrev D : Format := double

theorem d_fr : D.fractionBits = 52 := rfl
theorem d_least : D.leastPlace = -1074 := by decide
theorem d_bin : D.binade = 2 ^ 52 := rfl
theorem d_inf : D.infRung = 2047 * 2 ^ 52 := rfl
theorem d_sign : D.signWeight = 2 ^ 63 := rfl

/-- The magnitude of a rung, and its place above the least. -/
def mg (r : Nat) : Nat := if r < 2 ^ 52 then r else 2 ^ 52 + r % 2 ^ 52
def up (r : Nat) : Nat := if r < 2 ^ 52 then 0 else r / 2 ^ 52 - 1
/-- What a rung stands for, in units of 2^-1074. -/
def units (r : Nat) : Nat := mg r * 2 ^ up r

theorem rung_eq (r : Nat) : r = up r * 2 ^ 52 + mg r := by
  unfold up mg
  split
  · omega
  · have := Nat.div_add_mod r (2 ^ 52)
    omega

theorem mg_lt (r : Nat) : mg r < 2 ^ 53 := by
  unfold mg; split <;> omega

theorem mg_ge (r : Nat) (h : 0 < up r) : 2 ^ 52 ≤ mg r := by
  unfold up at h; unfold mg; split at h <;> split <;> omega

/-- The rung to which a number is rounded. -/
def rnd (mag : Nat) (place : Int) : Nat :=
  let last := max (place + mag.log2 - 52) (-1074)
  (last + 1074).toNat * 2 ^ 52 + Toward.even.cut false (mag <<< (place - last).toNat) (last - place).toNat

theorem cut_neg (a b : Bool) (n d : Nat) : Toward.even.cut a n d = Toward.even.cut b n d := rfl

theorem nearest_eq (s : Bool) (mag : Nat) (place : Int) (h : mag ≠ 0) : D.nearest s mag place = D.word s (min (rnd mag place) D.infRung) := by
  unfold Format.nearest rnd
  rw [if_neg h]
  dsimp only
  rw [d_least, d_bin, d_fr]
  rw [cut_neg s false]
  congr 3

theorem nearest_zero (s : Bool) (place : Int) : D.nearest s 0 place = D.word s 0 := by
  unfold Format.nearest; rw [if_pos rfl]

/-- what is cut, against a whole number of units of the last place -/
theorem kept_ge {mag m : Nat} {place last : Int} {a b : Nat} (hab : (b : Int) - a = place - last) (h : m * 2 ^ a ≤ mag * 2 ^ b) :
    m ≤ Toward.even.cut false (mag <<< (place - last).toNat) (last - place).toNat := by
  apply cut_ge
  rw [Nat.shiftLeft_eq]
  rcases Int.le_total last place with h1 | h1
  · have e1 : (last - place).toNat = 0 := by omega
    have e2 : b = a + (place - last).toNat := by omega
    rw [e1, Nat.pow_zero, Nat.mul_one]
    rw [e2, Nat.pow_add, Nat.mul_comm (2 ^ a), ← Nat.mul_assoc] at h
    exact Nat.le_of_mul_le_mul_right h (Nat.two_pow_pos a)
  · have e1 : (place - last).toNat = 0 := by omega
    have e2 : a = b + (last - place).toNat := by omega
    rw [e1, Nat.pow_zero, Nat.mul_one]
    rw [e2, Nat.pow_add, Nat.mul_comm (2 ^ b), ← Nat.mul_assoc] at h
    exact Nat.le_of_mul_le_mul_right h (Nat.two_pow_pos b)

theorem kept_le {mag m : Nat} {place last : Int} {a b : Nat} (hab : (b : Int) - a = place - last) (h : mag * 2 ^ b ≤ m * 2 ^ a) :
    Toward.even.cut false (mag <<< (place - last).toNat) (last - place).toNat ≤ m := by
  apply cut_le
  rw [Nat.shiftLeft_eq]
  rcases Int.le_total last place with h1 | h1
  · have e1 : (last - place).toNat = 0 := by omega
    have e2 : b = a + (place - last).toNat := by omega
    rw [e1, Nat.pow_zero, Nat.mul_one]
    rw [e2, Nat.pow_add, Nat.mul_comm (2 ^ a), ← Nat.mul_assoc] at h
    exact Nat.le_of_mul_le_mul_right h (Nat.two_pow_pos a)
  · have e1 : (place - last).toNat = 0 := by omega
    have e2 : a = b + (last - place).toNat := by omega
    rw [e1, Nat.pow_zero, Nat.mul_one]
    rw [e2, Nat.pow_add, Nat.mul_comm (2 ^ b), ← Nat.mul_assoc] at h
    exact Nat.le_of_mul_le_mul_right h (Nat.two_pow_pos b)

/-- the binade of a magnitude: bounds in whole numbers -/
theorem mag_lo {mag : Nat} (h : mag ≠ 0) : 2 ^ mag.log2 ≤ mag := Nat.log2_self_le h
theorem mag_hi (mag : Nat) : mag < 2 ^ (mag.log2 + 1) := Nat.lt_log2_self

/-- NOT BELOW: a rung whose number is not above what is rounded. -/
theorem le_rnd {mag : Nat} {place : Int} (hm : mag ≠ 0) (t : Nat) {a b : Nat} (hab : (b : Int) - a = place + 1074)
    (h : units t * 2 ^ a ≤ mag * 2 ^ b) : t ≤ rnd mag place := by
  unfold rnd
  dsimp only
  generalize hl : max (place + (mag.log2 : Int) - 52) (-1074) = last
  have hl1 : -1074 ≤ last := by omega
  have hlo := mag_lo hm
  have hhi := mag_hi mag
  generalize hL : mag.log2 = L at *
  unfold units at h
  have ht := rung_eq t
  have htl := mg_lt t
  have htg := mg_ge t
  generalize hu : up t = u at *
  generalize hg : mg t = g at *
  rw [Nat.mul_assoc, ← Nat.pow_add] at h
  by_cases h1 : (u : Int) = last + 1074
  · -- the same place
    have := kept_ge (mag := mag) (m := g) (place := place) (last := last) (a := u + a) (b := b) (by omega) h
    have e : (last + 1074).toNat = u := by omega
    rw [e]; omega
  · by_cases h2 : (u : Int) < last + 1074
    · have e : last = place + L - 52 := by omega
      have : 2 ^ 52 ≤ Toward.even.cut false (mag <<< (place - last).toNat) (last - place).toNat := by
        refine kept_ge (a := L) (b := 52) (by omega) ?_
        rw [Nat.mul_comm]; exact Nat.mul_le_mul_right _ hlo
      have e2 : u + 1 ≤ (last + 1074).toNat := by omega
      have e3 : (u + 1) * 2 ^ 52 ≤ (last + 1074).toNat * 2 ^ 52 := Nat.mul_le_mul_right _ e2
      omega
    · -- above: cannot be
      exfalso
      have h3 := htg (by omega)
      have h4 : 2 ^ 52 * 2 ^ (u + a) ≤ mag * 2 ^ b := Nat.le_trans (Nat.mul_le_mul_right _ h3) h
      have h5 : mag * 2 ^ b < 2 ^ (L + 1) * 2 ^ b := Nat.mul_lt_mul_of_pos_right hhi (Nat.two_pow_pos _)
      rw [← Nat.pow_add] at h4 h5
      have h6 : 2 ^ (52 + (u + a)) < 2 ^ (L + 1 + b) := Nat.lt_of_le_of_lt h4 h5
      have h7 := (Nat.pow_lt_pow_iff_right (by omega : 1 < 2)).1 h6
      omega

/-- NOT ABOVE. -/
theorem rnd_le {mag : Nat} {place : Int} (hm : mag ≠ 0) (t : Nat) {a b : Nat} (hab : (b : Int) - a = place + 1074)
    (h : mag * 2 ^ b ≤ units t * 2 ^ a) : rnd mag place ≤ t := by
  unfold rnd
  dsimp only
  generalize hl : max (place + (mag.log2 : Int) - 52) (-1074) = last
  have hl1 : -1074 ≤ last := by omega
  have hlo := mag_lo hm
  have hhi := mag_hi mag
  generalize hL : mag.log2 = L at *
  unfold units at h
  have ht := rung_eq t
  have htl := mg_lt t
  have htg := mg_ge t
  generalize hu : up t = u at *
  generalize hg : mg t = g at *
  rw [Nat.mul_assoc, ← Nat.pow_add] at h
  by_cases h1 : (u : Int) = last + 1074
  · have := kept_le (mag := mag) (m := g) (place := place) (last := last) (a := u + a) (b := b) (by omega) h
    have e : (last + 1074).toNat = u := by omega
    rw [e]; omega
  · by_cases h2 : last + 1074 < (u : Int)
    · have h3 := htg (by omega)
      have : Toward.even.cut false (mag <<< (place - last).toNat) (last - place).toNat ≤ 2 ^ 53 := by
        rcases Int.le_total (place + L - 52) (-1074) with hc | hc
        · -- the least place: mag * 2^place < 2^53 * 2^last
          have e : last = -1074 := by omega
          have hk : (b : Int) - a = place - last := by omega
          refine kept_le hk ?_
          have h5 : mag * 2 ^ b ≤ 2 ^ (L + 1) * 2 ^ b := Nat.mul_le_mul_right _ (Nat.le_of_lt hhi)
          refine Nat.le_trans h5 ?_
          rw [← Nat.pow_add, ← Nat.pow_add]
          exact Nat.pow_le_pow_right (by omega) (by omega)
        · have e : last = place + L - 52 := by omega
          refine kept_le (a := L) (b := 52) (by omega) ?_
          have h5 : mag * 2 ^ 52 ≤ 2 ^ (L + 1) * 2 ^ 52 := Nat.mul_le_mul_right _ (Nat.le_of_lt hhi)
          refine Nat.le_trans h5 ?_
          rw [← Nat.pow_add, ← Nat.pow_add]
          exact Nat.pow_le_pow_right (by omega) (by omega)
      have e2 : (last + 1074).toNat + 1 ≤ u := by omega
      have e3 : ((last + 1074).toNat + 1) * 2 ^ 52 ≤ u * 2 ^ 52 := Nat.mul_le_mul_right _ e2
      omega
    · exfalso
      have e : last = place + L - 52 := by omega
      have h4 : 2 ^ L * 2 ^ b ≤ g * 2 ^ (u + a) := Nat.le_trans (Nat.mul_le_mul_right _ hlo) h
      have h5 : g * 2 ^ (u + a) < 2 ^ 53 * 2 ^ (u + a) := Nat.mul_lt_mul_of_pos_right htl (Nat.two_pow_pos _)
      rw [← Nat.pow_add] at h4 h5
      have h6 : 2 ^ (L + b) < 2 ^ (53 + (u + a)) := Nat.lt_of_le_of_lt h4 h5
      have h7 := (Nat.pow_lt_pow_iff_right (by omega : 1 < 2)).1 h6
      omega

/-- EXACT. -/
theorem rnd_exact {mag : Nat} {place : Int} (hm : mag ≠ 0) (t : Nat) {a b : Nat} (hab : (b : Int) - a = place + 1074)
    (h : mag * 2 ^ b = units t * 2 ^ a) : rnd mag place = t :=
  Nat.le_antisymm (rnd_le hm t hab (Nat.le_of_eq h)) (le_rnd hm t hab (Nat.le_of_eq h.symm))


/-- 2^1074: a whole number's units. -/
theorem E_ex : ∃ e : Nat, e = 1074 := ⟨_, rfl⟩
noncomputable def E : Nat := Classical.choose E_ex
theorem E_eq : E = 1074 := Classical.choose_spec E_ex
noncomputable def P : Nat := 2 ^ E
theorem P_eq : P = 2 ^ E := rfl
theorem P_pos' : 0 < P := Nat.two_pow_pos _

/- Words: sign, rung, and what they stand for. -/
def rung (x : Nat) : Nat := x % 2 ^ 63
def sg (x : Nat) : Bool := x / 2 ^ 63 % 2 == 1
def INF : Nat := 2047 * 2 ^ 52
def uv (x : Nat) : Int := if sg x then -(units (rung x) : Int) else (units (rung x) : Int)

theorem units_zero : units 0 = 0 := by decide

theorem read_fin {x : Nat} (h : rung x < INF) : D.read x = .number (sg x) (mg (rung x)) (-1074 + (up (rung x) : Int)) := by
  unfold INF at h
  unfold Format.read
  dsimp only
  rw [d_sign, d_bin, d_inf, d_least]
  unfold sg mg up rung at *
  rw [if_pos h]
  split
  · simp
  · rfl

theorem read_inf {x : Nat} (h : rung x = INF) : D.read x = .infinity (sg x) := by
  unfold INF at h
  unfold Format.read
  dsimp only
  rw [d_sign, d_bin, d_inf]
  unfold sg rung at *
  rw [h, if_neg (by decide), if_neg (by decide), if_pos rfl]

theorem read_nan {x : Nat} (h : INF < rung x) : ∃ s t, D.read x = .nan s t := by
  unfold INF at h
  unfold Format.read
  dsimp only
  rw [d_sign, d_bin, d_inf]
  unfold rung at *
  rw [if_neg (by omega), if_neg (by omega), if_neg (by omega)]
  exact ⟨_, _, rfl⟩

theorem word_of {x : Nat} (h : x < 2 ^ 64) : D.word (sg x) (rung x) = x := by
  unfold Format.word sg rung
  rw [d_sign]
  by_cases h1 : x / 2 ^ 63 % 2 = 1 <;> simp [h1] <;> omega

theorem sg_word (s : Bool) {r : Nat} (h : r < 2 ^ 63) : sg (D.word s r) = s := by
  unfold Format.word sg
  rw [d_sign]
  cases s <;> simp <;> omega

theorem rung_word (s : Bool) {r : Nat} (h : r < 2 ^ 63) : rung (D.word s r) = r := by
  unfold Format.word rung
  rw [d_sign]
  cases s <;> simp <;> omega

theorem word_lt64 (s : Bool) {r : Nat} (h : r < 2 ^ 63) : D.word s r < 2 ^ 64 := by
  unfold Format.word
  rw [d_sign]
  cases s <;> simp <;> omega

theorem word_inj {x y : Nat} (hx : x < 2 ^ 64) (hy : y < 2 ^ 64) (hs : sg x = sg y) (hr : rung x = rung y) : x = y := by
  rw [← word_of hx, ← word_of hy, hs, hr]

theorem up_mk {u m : Nat} (h1 : 2 ^ 52 ≤ m) (h2 : m < 2 ^ 53) : up (u * 2 ^ 52 + m) = u := by
  unfold up; rw [if_neg (by omega)]; omega
theorem mg_mk {u m : Nat} (h1 : 2 ^ 52 ≤ m) (h2 : m < 2 ^ 53) : mg (u * 2 ^ 52 + m) = m := by
  unfold mg; rw [if_neg (by omega)]; omega

theorem units_lt {r q : Nat} (h : r < q) : units r < units q := by
  have e1 := rung_eq r
  have e2 := rung_eq q
  have l1 := mg_lt r
  have l2 := mg_lt q
  have g1 := mg_ge r
  have g2 := mg_ge q
  unfold units
  generalize up r = u at *
  generalize up q = v at *
  generalize mg r = m at *
  generalize mg q = n at *
  by_cases h1 : u = v
  · subst h1
    exact Nat.mul_lt_mul_of_pos_right (by omega) (Nat.two_pow_pos _)
  · by_cases h2 : u < v
    · have h3 := g2 (by omega)
      have h4 : m * 2 ^ u < 2 ^ 53 * 2 ^ u := Nat.mul_lt_mul_of_pos_right l1 (Nat.two_pow_pos _)
      have h5 : 2 ^ 53 * 2 ^ u ≤ 2 ^ 52 * 2 ^ v := by
        rw [← Nat.pow_add, ← Nat.pow_add]; exact Nat.pow_le_pow_right (by omega) (by omega)
      exact Nat.lt_of_lt_of_le h4 (Nat.le_trans h5 (Nat.mul_le_mul_right _ h3))
    · exfalso
      have h3 := g1 (by omega)
      have h4 : (v + 1) * 2 ^ 52 ≤ u * 2 ^ 52 := Nat.mul_le_mul_right _ (by omega)
      omega

theorem units_le {r q : Nat} (h : r ≤ q) : units r ≤ units q := by
  rcases Nat.lt_or_eq_of_le h with h | h
  · exact Nat.le_of_lt (units_lt h)
  · rw [h]; exact Nat.le_refl _

theorem units_inj {r q : Nat} (h : units r = units q) : r = q := by
  rcases Nat.lt_trichotomy r q with h1 | h1 | h1
  · have := units_lt h1; omega
  · exact h1
  · have := units_lt h1; omega

theorem units_pos {r : Nat} (h : 0 < r) : 0 < units r := by
  have := units_lt h; omega

theorem units_eq_zero {r : Nat} : units r = 0 ↔ r = 0 := by
  constructor
  · intro h; exact units_inj (by rw [h, units_zero])
  · intro h; rw [h, units_zero]

theorem mg_eq_zero {r : Nat} : mg r = 0 ↔ r = 0 := by
  unfold mg; split <;> omega

theorem cmp_lt {a b : Int} (h : a < b) : compare a b = .lt := by simp [compare, compareOfLessAndEq, h]
theorem cmp_gt {a b : Int} (h : b < a) : compare a b = .gt := by
  have h1 : ¬ a < b := by omega
  have h2 : a ≠ b := by omega
  simp [compare, compareOfLessAndEq, h1, h2]
theorem cmp_eq {a b : Int} (h : a = b) : compare a b = .eq := by simp [compare, compareOfLessAndEq, h]

theorem compare_mul (a b : Int) (k : Nat) (hk : 0 < k) : compare (a * k) (b * k) = compare a b := by
  have hk' : (0 : Int) < k := by omega
  rcases Int.lt_trichotomy a b with h | h | h
  · have := Int.mul_lt_mul_of_pos_right h hk'
    rw [cmp_lt this, cmp_lt h]
  · subst h; simp
  · have := Int.mul_lt_mul_of_pos_right h hk'
    rw [cmp_gt this, cmp_gt h]

theorem uv_signed (x base : Nat) (hb : base ≤ up (rung x)) :
    uv x = signed (sg x) (mg (rung x)) (up (rung x) - base) * (2 ^ base : Nat) := by
  unfold uv signed units
  have e : mg (rung x) * 2 ^ up (rung x) = mg (rung x) <<< (up (rung x) - base) * 2 ^ base := by
    rw [Nat.shiftLeft_eq, Nat.mul_assoc, ← Nat.pow_add]; congr 2; omega
  rw [e]
  generalize mg (rung x) <<< (up (rung x) - base) = q
  generalize (2 ^ base : Nat) = p
  split <;> simp [Int.neg_mul]

theorem order_fin {x y : Nat} (hx : rung x < INF) (hy : rung y < INF) : D.order x y = some (compare (uv x) (uv y)) := by
  unfold Format.order
  rw [read_fin hx, read_fin hy]
  unfold Datum.order
  dsimp only
  generalize hb : min (up (rung x)) (up (rung y)) = base
  have e1 : (-1074 + (up (rung x) : Int) - min (-1074 + (up (rung x) : Int)) (-1074 + (up (rung y) : Int))).toNat = up (rung x) - base := by omega
  have e2 : (-1074 + (up (rung y) : Int) - min (-1074 + (up (rung x) : Int)) (-1074 + (up (rung y) : Int))).toNat = up (rung y) - base := by omega
  rw [e1, e2, uv_signed x base (by omega), uv_signed y base (by omega), compare_mul _ _ _ (Nat.two_pow_pos _)]

/-- NaN is not in order with anything, and all else with itself. -/
theorem order_self {x : Nat} : D.order x x = some .eq ↔ rung x ≤ INF := by
  rcases Nat.lt_trichotomy (rung x) INF with h | h | h
  · rw [order_fin h h]; simp; omega
  · unfold Format.order; rw [read_inf h]; simp [Datum.order]; omega
  · obtain ⟨s, t, e⟩ := read_nan h
    unfold Format.order; rw [e]; simp [Datum.order]; omega

theorem order_nan_left {x : Nat} (h : INF < rung x) (y : Nat) : D.order x y = none := by
  obtain ⟨s, t, e⟩ := read_nan h
  unfold Format.order; rw [e]; simp [Datum.order]

theorem order_nan_right {y : Nat} (h : INF < rung y) (x : Nat) : D.order x y = none := by
  obtain ⟨s, t, e⟩ := read_nan h
  unfold Format.order; rw [e]; cases D.read x <;> simp [Datum.order]

/-- The nearest word of what a finite word stands for is that word. -/
theorem nearest_exact {mag : Nat} {place : Int} {z : Nat} (hz : z < 2 ^ 64) (hf : rung z < INF) (hm : mag ≠ 0) {a b : Nat} (hab : (b : Int) - a = place + 1074)
    (h : mag * 2 ^ b = units (rung z) * 2 ^ a) : D.nearest (sg z) mag place = z := by
  rw [nearest_eq _ _ _ hm, rnd_exact hm (rung z) hab h, Nat.min_eq_left (show rung z ≤ D.infRung from Nat.le_of_lt hf), word_of hz]

/-- AN EXACT SUM that is not nought. -/
theorem add_exact {x y z : Nat} (hx : rung x < INF) (hy : rung y < INF) (hz : z < 2 ^ 64) (hf : rung z < INF)
    (h : uv x + uv y = uv z) (h0 : uv z ≠ 0) : D.add x y = some z := by
  unfold Format.add
  rw [read_fin hx, read_fin hy]
  unfold Datum.sum
  dsimp only
  generalize hb : min (up (rung x)) (up (rung y)) = base
  have e1 : (-1074 + (up (rung x) : Int) - min (-1074 + (up (rung x) : Int)) (-1074 + (up (rung y) : Int))).toNat = up (rung x) - base := by omega
  have e2 : (-1074 + (up (rung y) : Int) - min (-1074 + (up (rung x) : Int)) (-1074 + (up (rung y) : Int))).toNat = up (rung y) - base := by omega
  have e3 : min (-1074 + (up (rung x) : Int)) (-1074 + (up (rung y) : Int)) = -1074 + (base : Int) := by omega
  rw [e1, e2, e3]
  rw [uv_signed x base (by omega), uv_signed y base (by omega), ← Int.add_mul] at h
  generalize signed (sg x) (mg (rung x)) (up (rung x) - base) + signed (sg y) (mg (rung y)) (up (rung y) - base) = total at *
  have hp : 0 < (2 ^ base : Nat) := Nat.two_pow_pos _
  have ht : total ≠ 0 := by intro e; rw [e] at h; simp at h; omega
  rw [if_neg ht]
  simp only [Option.map_some, Format.write, Option.some.injEq]
  have hu : (uv z).natAbs = units (rung z) := by unfold uv; split <;> simp
  have hs : decide (total < 0) = sg z := by
    have hz0 : units (rung z) ≠ 0 := by intro e; apply h0; omega
    have hp' : (0 : Int) < ((2 ^ base : Nat) : Int) := by omega
    unfold uv at h
    by_cases hs : sg z = true
    · rw [hs] at h ⊢
      simp only [if_true] at h
      have : ¬ 0 ≤ total := by
        intro h1
        have := Int.mul_nonneg h1 (Int.le_of_lt hp')
        omega
      simp; omega
    · rw [if_neg hs] at h
      have : ¬ total < 0 := by
        intro h1
        have := Int.mul_neg_of_neg_of_pos h1 hp'
        omega
      simp only [Bool.not_eq_true] at hs
      rw [hs]; simp only [decide_eq_false_iff_not]; exact this
  rw [hs]
  refine nearest_exact hz hf (by omega) (a := 0) (b := base) (by omega) ?_
  rw [← hu, ← h, Int.natAbs_mul]
  simp

/-- A sum that cancels. -/
theorem add_zero {x y : Nat} (hx : rung x < INF) (hy : rung y < INF) (h : uv x + uv y = 0) : D.add x y = some (D.word (sg x && sg y) 0) := by
  unfold Format.add
  rw [read_fin hx, read_fin hy]
  unfold Datum.sum
  dsimp only
  generalize hb : min (up (rung x)) (up (rung y)) = base
  have e1 : (-1074 + (up (rung x) : Int) - min (-1074 + (up (rung x) : Int)) (-1074 + (up (rung y) : Int))).toNat = up (rung x) - base := by omega
  have e2 : (-1074 + (up (rung y) : Int) - min (-1074 + (up (rung x) : Int)) (-1074 + (up (rung y) : Int))).toNat = up (rung y) - base := by omega
  rw [e1, e2]
  rw [uv_signed x base (by omega), uv_signed y base (by omega), ← Int.add_mul] at h
  generalize signed (sg x) (mg (rung x)) (up (rung x) - base) + signed (sg y) (mg (rung y)) (up (rung y) - base) = total at *
  have hp : (2 ^ base : Nat) ≠ 0 := Nat.ne_of_gt (Nat.two_pow_pos _)
  have ht : total = 0 := by
    rcases Int.mul_eq_zero.1 h with h | h
    · exact h
    · exact absurd (by exact_mod_cast h) hp
  rw [if_pos ht, ht]
  simp [Format.write, nearest_zero]

/-- AN EXACT PRODUCT. -/
theorem mul_exact {x y z : Nat} (hx : rung x < INF) (hy : rung y < INF) (hz : z < 2 ^ 64) (hf : rung z < INF)
    (h : units (rung x) * units (rung y) = units (rung z) * P) (hs : sg z = (sg x ^^ sg y)) : D.mul x y = some z := by
  unfold Format.mul
  rw [read_fin hx, read_fin hy]
  unfold Datum.product
  dsimp only
  simp only [Option.map_some, Format.write, Option.some.injEq]
  rw [← hs]
  by_cases h0 : mg (rung x) * mg (rung y) = 0
  · rw [h0, nearest_zero]
    have : units (rung z) = 0 := by
      have h1 : units (rung x) * units (rung y) = 0 := by
        unfold units
        rw [Nat.mul_mul_mul_comm, h0, Nat.zero_mul]
      rw [h1] at h
      rcases Nat.mul_eq_zero.1 h.symm with h | h
      · exact h
      · exact absurd h (Nat.ne_of_gt P_pos')
    have e := units_eq_zero.1 this
    rw [← word_of hz, e]
    rw [sg_word _ (by omega)]
  · refine nearest_exact hz hf h0 (a := E) (b := up (rung x) + up (rung y)) (by rw [E_eq]; omega) ?_
    rw [← P_eq, ← h]
    unfold units
    rw [Nat.pow_add, Nat.mul_mul_mul_comm]

/-- WHOLE NUMBERS. -/
def enc (n : Int) : Nat := D.nearest (n < 0) n.natAbs 0

theorem whole_rung {n : Nat} (h0 : n ≠ 0) (h : n < 2 ^ 53) : ∃ t, t < INF ∧ 0 < t ∧ units t = n * P ∧ 2 ^ 52 ≤ mg t ∧ 1022 ≤ up t ∧ up t ≤ 1074 := by
  have hl : n.log2 ≤ 52 := by
    have := (Nat.log2_lt h0).2 h; omega
  have h1 := mag_lo h0
  have h2 := mag_hi n
  generalize n.log2 = L at *
  have m1 : 2 ^ 52 ≤ n * 2 ^ (52 - L) := by
    refine Nat.le_trans ?_ (Nat.mul_le_mul_right _ h1)
    rw [← Nat.pow_add]; exact Nat.pow_le_pow_right (by omega) (by omega)
  have m2 : n * 2 ^ (52 - L) < 2 ^ 53 := by
    refine Nat.lt_of_lt_of_le (Nat.mul_lt_mul_of_pos_right h2 (Nat.two_pow_pos _)) ?_
    rw [← Nat.pow_add]; exact Nat.pow_le_pow_right (by omega) (by omega)
  refine ⟨(L + 1022) * 2 ^ 52 + n * 2 ^ (52 - L), ?_, ?_, ?_, by rw [mg_mk m1 m2]; exact m1, by rw [up_mk m1 m2]; omega, by rw [up_mk m1 m2]; omega⟩
  · unfold INF
    have : (L + 1022) * 2 ^ 52 ≤ 1074 * 2 ^ 52 := Nat.mul_le_mul_right _ (by omega)
    omega
  · omega
  · unfold units
    rw [up_mk m1 m2, mg_mk m1 m2, Nat.mul_assoc, ← Nat.pow_add, P_eq, show 52 - L + (L + 1022) = E from by rw [E_eq]; omega]

theorem enc_zero : enc 0 = 0 := by
  unfold enc; simp [nearest_zero, Format.word]

/-- what the word of a whole number is -/
structure Whole (n : Int) (x : Nat) : Prop where
  lt : x < 2 ^ 64
  fin : rung x < INF
  uv : uv x = n * P
  sg : sg x = decide (n < 0)

theorem enc_whole {n : Int} (h : n.natAbs < 2 ^ 53) : Whole n (enc n) := by
  by_cases h0 : n = 0
  · subst h0
    rw [enc_zero]
    exact ⟨by decide, by decide, by rw [Int.zero_mul]; decide, by decide⟩
  · obtain ⟨t, t1, t2, t3, _⟩ := whole_rung (n := n.natAbs) (by omega) h
    have t63 : t < 2 ^ 63 := by unfold INF at t1; omega
    have e : enc n = D.word (n < 0) t := by
      unfold enc
      rw [nearest_eq _ _ _ (by omega), rnd_exact (place := 0) (by omega) t (a := 0) (b := E) (by rw [E_eq]; omega) (by rw [t3, P_eq, Nat.pow_zero, Nat.mul_one]), Nat.min_eq_left (show t ≤ D.infRung from Nat.le_of_lt t1)]
    rw [e]
    refine ⟨word_lt64 _ t63, by rw [rung_word _ t63]; exact t1, ?_, sg_word _ t63⟩
    unfold uv
    rw [sg_word _ t63, rung_word _ t63, t3]
    generalize P = p
    by_cases hn : n < 0
    · have : (n.natAbs : Int) = -n := by omega
      simp [hn, this, Int.neg_mul]
    · have : (n.natAbs : Int) = n := by omega
      simp [hn, this]

theorem whole_unique {n : Int} {x y : Nat} (hx : Whole n x) (hy : Whole n y) : x = y := by
  refine word_inj hx.lt hy.lt (by rw [hx.sg, hy.sg]) ?_
  have h := hx.uv.trans hy.uv.symm
  have hs := hx.sg.trans hy.sg.symm
  unfold uv at h
  rw [hs] at h
  apply units_inj
  split at h <;> omega

theorem enc_of_whole {n : Int} (h : n.natAbs < 2 ^ 53) {x : Nat} (hx : Whole n x) : x = enc n := whole_unique hx (enc_whole h)

theorem P_pos : (0 : Int) < (P : Int) := by
  have := P_pos'; omega

/-- WHOLE NUMBERS ADD UP. -/
theorem add_whole {a b : Int} (ha : a.natAbs < 2 ^ 53) (hb : b.natAbs < 2 ^ 53) (hc : (a + b).natAbs < 2 ^ 53) : D.add (enc a) (enc b) = some (enc (a + b)) := by
  have wa := enc_whole ha
  have wb := enc_whole hb
  have wc := enc_whole hc
  have e : uv (enc a) + uv (enc b) = uv (enc (a + b)) := by rw [wa.uv, wb.uv, wc.uv, Int.add_mul]
  by_cases h0 : a + b = 0
  · have e0 : uv (enc a) + uv (enc b) = 0 := by rw [e, wc.uv, h0, Int.zero_mul]
    rw [add_zero wa.fin wb.fin e0, wa.sg, wb.sg, h0, enc_zero]
    have : (decide (a < 0) && decide (b < 0)) = false := by simp; omega
    rw [this]; simp [Format.word]
  · refine add_exact wa.fin wb.fin wc.lt wc.fin e ?_
    rw [wc.uv]
    exact Int.mul_ne_zero h0 (Int.ne_of_gt P_pos)

theorem units_of_whole {n : Int} {x : Nat} (h : Whole n x) : units (rung x) = n.natAbs * P := by
  have e : (uv x).natAbs = units (rung x) := by unfold uv; split <;> simp
  rw [← e, h.uv, Int.natAbs_mul]
  generalize P = p
  simp

/-- WHOLE NUMBERS THAT ARE NOT BELOW NOUGHT MULTIPLY. -/
theorem mul_whole {a b : Nat} (ha : a < 2 ^ 26) (hb : b < 2 ^ 26) : D.mul (enc a) (enc b) = some (enc ((a * b : Nat) : Int)) := by
  have hab : a * b < 2 ^ 53 := by
    have : a * b ≤ 2 ^ 26 * 2 ^ 26 := Nat.mul_le_mul (by omega) (by omega)
    omega
  have wa := enc_whole (n := (a : Int)) (by simp; omega)
  have wb := enc_whole (n := (b : Int)) (by simp; omega)
  have wc := enc_whole (n := ((a * b : Nat) : Int)) (by rw [Int.natAbs_natCast]; exact hab)
  refine mul_exact wa.fin wb.fin wc.lt wc.fin ?_ ?_
  · rw [units_of_whole wa, units_of_whole wb, units_of_whole wc]
    generalize P = p
    simp only [Int.natAbs_natCast]
    rw [Nat.mul_mul_mul_comm, ← Nat.mul_assoc]
  · rw [wa.sg, wb.sg, wc.sg]
    have h1 : decide (((a * b : Nat) : Int) < 0) = false := by simp only [decide_eq_false_iff_not]; omega
    have h2 : decide ((a : Int) < 0) = false := by simp only [decide_eq_false_iff_not]; omega
    have h3 : decide ((b : Int) < 0) = false := by simp only [decide_eq_false_iff_not]; omega
    rw [h1, h2, h3]; rfl

/-- WHOLE NUMBERS STAND AS THEIR WORDS DO. -/
theorem order_whole {a b : Int} (ha : a.natAbs < 2 ^ 53) (hb : b.natAbs < 2 ^ 53) : D.order (enc a) (enc b) = some (compare a b) := by
  have wa := enc_whole ha
  have wb := enc_whole hb
  rw [order_fin wa.fin wb.fin, wa.uv, wb.uv, compare_mul _ _ _ P_pos']


/-- WHAT IS ADDED TO NOUGHT. -/
theorem zero_add_fin {x : Nat} (hx : x < 2 ^ 64) (hf : rung x < INF) : D.add 0 x = some (if rung x = 0 then 0 else x) := by
  have h0 : uv 0 = 0 := by decide
  have hr0 : rung 0 < INF := by decide
  by_cases h : rung x = 0
  · rw [if_pos h, add_zero hr0 hf]
    · rw [show sg 0 = false from by decide]; simp [Format.word]
    · rw [h0]; unfold uv; rw [h, units_zero]; simp
  · rw [if_neg h]
    refine add_exact hr0 hf hx hf (by rw [h0, Int.zero_add]) ?_
    have := units_pos (Nat.pos_of_ne_zero h)
    unfold uv; split <;> omega

theorem add_inf_fin {x y : Nat} (hx : rung x = INF) (hy : rung y < INF) : D.add x y = some (D.word (sg x) INF) := by
  unfold Format.add
  rw [read_inf hx, read_fin hy]
  rfl

theorem add_fin_inf {x y : Nat} (hx : rung x < INF) (hy : rung y = INF) : D.add x y = some (D.word (sg y) INF) := by
  unfold Format.add
  rw [read_fin hx, read_inf hy]
  rfl

theorem add_inf_inf {x y : Nat} (hx : rung x = INF) (hy : rung y = INF) : D.add x y = if sg x = sg y then some (D.word (sg x) INF) else none := by
  unfold Format.add
  rw [read_inf hx, read_inf hy]
  unfold Datum.sum
  dsimp only
  split <;> simp [Format.write] <;> rfl

theorem add_nan_left {x : Nat} (h : INF < rung x) (y : Nat) : D.add x y = none := by
  obtain ⟨s, t, e⟩ := read_nan h
  unfold Format.add; rw [e]; simp [Datum.sum]

theorem add_nan_right {y : Nat} (h : INF < rung y) (x : Nat) : D.add x y = none := by
  obtain ⟨s, t, e⟩ := read_nan h
  unfold Format.add; rw [e]; cases D.read x <;> simp [Datum.sum]

theorem div_nan_left {x : Nat} (h : INF < rung x) (y : Nat) : D.div x y = none := by
  obtain ⟨s, t, e⟩ := read_nan h
  unfold Format.div; rw [e]; simp [Datum.quotient]

/-- THE SANDWICH: a quotient of two numbers that are not nought, rounded, against a rung of the quotient's own grid. -/
theorem div_rung {x y : Nat} (hx : rung x < INF) (hy : rung y < INF) (hx0 : rung x ≠ 0) (hy0 : rung y ≠ 0) :
    ∃ r, D.div x y = some (D.word (sg x ^^ sg y) (min r INF))
      ∧ ∀ t h, units t * 2 ^ (up (rung y) + (54 + (mg (rung y)).log2 - (mg (rung x)).log2)) = h * P * 2 ^ up (rung x) →
        (units t * units (rung y) ≤ units (rung x) * P → t ≤ r) ∧ (units (rung x) * P ≤ units t * units (rung y) → r ≤ t) := by
  have mx : mg (rung x) ≠ 0 := fun e => hx0 (mg_eq_zero.1 e)
  have my : mg (rung y) ≠ 0 := fun e => hy0 (mg_eq_zero.1 e)
  unfold Format.div
  rw [read_fin hx, read_fin hy]
  unfold Datum.quotient
  dsimp only
  rw [if_neg my, d_fr]
  simp only [Option.map_some, Format.write, Option.some.injEq]
  have hup : units (rung x) = mg (rung x) * 2 ^ up (rung x) := rfl
  have huq : units (rung y) = mg (rung y) * 2 ^ up (rung y) := rfl
  rw [hup, huq]
  rw [show 52 + 2 + (mg (rung y)).log2 - (mg (rung x)).log2 = 54 + (mg (rung y)).log2 - (mg (rung x)).log2 from rfl]
  have hbig : 2 ^ (mg (rung y)).log2 ≤ mg (rung x) <<< (54 + (mg (rung y)).log2 - (mg (rung x)).log2) := by
    rw [Nat.shiftLeft_eq]
    refine Nat.le_trans ?_ (Nat.mul_le_mul_right _ (mag_lo mx))
    rw [← Nat.pow_add]; exact Nat.pow_le_pow_right (by omega) (by omega)
  have hbig2 : 2 * mg (rung y) ≤ mg (rung x) <<< (54 + (mg (rung y)).log2 - (mg (rung x)).log2) := by
    rw [Nat.shiftLeft_eq]
    have h1 := mag_hi (mg (rung y))
    refine Nat.le_trans (Nat.le_trans (Nat.mul_le_mul_left 2 (Nat.le_of_lt h1)) ?_) (Nat.mul_le_mul_right _ (mag_lo mx))
    rw [← Nat.pow_add, ← Nat.pow_succ']; exact Nat.pow_le_pow_right (by omega) (by omega)
  clear hbig
  generalize 54 + (mg (rung y)).log2 - (mg (rung x)).log2 = more at *
  generalize mg (rung x) = m at *
  generalize mg (rung y) = n at *
  generalize up (rung x) = ux at *
  generalize up (rung y) = uy at *
  have hn : 0 < n := Nat.pos_of_ne_zero my
  have hq : 0 < m <<< more / n := Nat.div_pos (by omega) hn
  generalize hmag : 2 * (m <<< more / n) + (m <<< more % n != 0).toNat = mag
  have hm0 : mag ≠ 0 := by omega
  rw [nearest_eq _ _ _ hm0]
  refine ⟨_, rfl, ?_⟩
  intro t h hg
  have hd := Nat.div_add_mod (m <<< more) n
  have hlt := Nat.mod_lt (m <<< more) hn
  rw [Nat.shiftLeft_eq] at *
  have hP := P_pos'
  have h2x := Nat.two_pow_pos ux
  have h2m := Nat.two_pow_pos more
  -- the grid's factor
  have key : ∀ c : Nat, units t * (n * 2 ^ uy) * 2 ^ more = h * n * (P * 2 ^ ux) := by
    intro _
    have : units t * (n * 2 ^ uy) * 2 ^ more = (units t * 2 ^ (uy + more)) * n := by
      rw [Nat.pow_add]; ac_rfl
    rw [this, hg]; ac_rfl
  have key2 : m * 2 ^ ux * P * 2 ^ more = m * 2 ^ more * (P * 2 ^ ux) := by ac_rfl
  have hpp : 0 < P * 2 ^ ux := Nat.mul_pos hP h2x
  constructor
  · intro hle
    have h1 : h * n * (P * 2 ^ ux) ≤ m * 2 ^ more * (P * 2 ^ ux) := by
      rw [← key 0, ← key2]; exact Nat.mul_le_mul_right _ hle
    have h2 : h * n ≤ m * 2 ^ more := Nat.le_of_mul_le_mul_right h1 hpp
    have h3 : h ≤ m * 2 ^ more / n := (Nat.le_div_iff_mul_le hn).2 h2
    refine le_rnd hm0 t (a := uy + more + 1) (b := ux + E) (by rw [E_eq]; omega) ?_
    rw [Nat.pow_succ, ← Nat.mul_assoc, hg]
    have e : mag * 2 ^ (ux + E) = mag * (P * 2 ^ ux) := by rw [Nat.pow_add, ← P_eq]; ac_rfl
    rw [e, show h * P * 2 ^ ux * 2 = (2 * h) * (P * 2 ^ ux) from by ac_rfl]
    exact Nat.mul_le_mul_right _ (by omega)
  · intro hle
    have h1 : m * 2 ^ more * (P * 2 ^ ux) ≤ h * n * (P * 2 ^ ux) := by
      rw [← key 0, ← key2]; exact Nat.mul_le_mul_right _ hle
    have h2 : m * 2 ^ more ≤ h * n := Nat.le_of_mul_le_mul_right h1 hpp
    have h3 : mag ≤ 2 * h := by
      by_cases hc : m * 2 ^ more / n < h
      · have := Bool.toNat_le (m * 2 ^ more % n != 0); omega
      · have h4 : n * h ≤ n * (m * 2 ^ more / n) := Nat.mul_le_mul_left _ (by omega)
        rw [Nat.mul_comm h n] at h2
        have h5 : m * 2 ^ more % n = 0 := by omega
        rw [h5] at hmag hd
        have h6 : m * 2 ^ more / n ≤ h := Nat.le_of_mul_le_mul_left (by omega) hn
        simp at hmag; omega
    refine rnd_le hm0 t (a := uy + more + 1) (b := ux + E) (by rw [E_eq]; omega) ?_
    rw [Nat.pow_succ, ← Nat.mul_assoc, hg]
    have e : mag * 2 ^ (ux + E) = mag * (P * 2 ^ ux) := by rw [Nat.pow_add, ← P_eq]; ac_rfl
    rw [e, show h * P * 2 ^ ux * 2 = (2 * h) * (P * 2 ^ ux) from by ac_rfl]
    exact Nat.mul_le_mul_right _ h3

theorem div_zero_num {x y : Nat} (hx : rung x = 0) (hy : rung y < INF) (hy0 : rung y ≠ 0) : D.div x y = some (D.word (sg x ^^ sg y) 0) := by
  have my : mg (rung y) ≠ 0 := fun e => hy0 (mg_eq_zero.1 e)
  unfold Format.div
  rw [read_fin (by rw [hx]; decide), read_fin hy, hx, show mg 0 = 0 from by decide]
  unfold Datum.quotient
  dsimp only
  rw [if_neg my]
  simp [Format.write, nearest_zero]

theorem log2_eq {m : Nat} (h1 : 2 ^ 52 ≤ m) (h2 : m < 2 ^ 53) : m.log2 = 52 := by
  have h0 : m ≠ 0 := by omega
  have a := (Nat.log2_lt h0).2 h2
  have b := (Nat.le_log2 h0).2 h1
  omega

/-- the rung of a whole number: normal, its place within bounds -/
theorem whole_shape {n : Int} {x : Nat} (h : Whole n x) (h0 : n ≠ 0) (hb : n.natAbs < 2 ^ 53) :
    2 ^ 52 ≤ mg (rung x) ∧ mg (rung x) < 2 ^ 53 ∧ 1022 ≤ up (rung x) ∧ up (rung x) ≤ 1074 ∧ rung x ≠ 0 := by
  obtain ⟨t, t1, t2, t3, t4, t5, t6⟩ := whole_rung (n := n.natAbs) (by omega) hb
  have e : rung x = t := units_inj (by rw [units_of_whole h, t3])
  rw [e]
  exact ⟨t4, mg_lt _, t5, t6, by omega⟩

/-- A quotient of whole numbers lies between whole numbers that it lies between. -/
theorem div_whole {n k lo hi : Int} (hn : n.natAbs < 2 ^ 53) (hk : 0 < k) (hk' : k.natAbs < 2 ^ 53) (hl : lo.natAbs < 2 ^ 53) (hh : hi.natAbs < 2 ^ 53)
    (h1 : k * lo ≤ n) (h2 : n ≤ k * hi) :
    ∃ r, D.div (enc n) (enc k) = some r ∧ rung r < INF ∧ lo * P ≤ uv r ∧ uv r ≤ hi * P := by
  have wn := enc_whole hn
  have wk := enc_whole hk'
  have sk := whole_shape wk (by omega) hk'
  have hPI := P_pos
  by_cases h0 : n = 0
  · subst h0
    refine ⟨_, div_zero_num (by rw [enc_zero]; decide) wk.fin sk.2.2.2.2, ?_, ?_, ?_⟩
    · rw [rung_word _ (by decide)]; decide
    · unfold uv; rw [rung_word _ (by decide), units_zero]
      have : lo ≤ 0 := Int.nonpos_of_mul_nonpos_right h1 hk
      have := Int.mul_nonpos_of_nonpos_of_nonneg this (Int.le_of_lt hPI)
      split <;> simpa using this
    · unfold uv; rw [rung_word _ (by decide), units_zero]
      have : 0 ≤ hi := Int.nonneg_of_mul_nonneg_right h2 hk
      have := Int.mul_nonneg this (Int.le_of_lt hPI)
      split <;> simpa using this
  · have sn := whole_shape wn h0 hn
    obtain ⟨r, hr, sand⟩ := div_rung wn.fin wk.fin sn.2.2.2.2 sk.2.2.2.2
    rw [log2_eq sn.1 sn.2.1, log2_eq sk.1 sk.2.1] at sand
    rw [units_of_whole wn, units_of_whole wk] at sand
    have hsk : sg (enc k) = false := by rw [wk.sg]; simp; omega
    rw [hsk, Bool.xor_false] at hr
    -- the sandwich at a whole number
    have sw : ∀ c : Nat, c ≠ 0 → c < 2 ^ 53 → ∃ t, t < INF ∧ units t = c * P ∧ (c * k.natAbs ≤ n.natAbs → t ≤ r) ∧ (n.natAbs ≤ c * k.natAbs → r ≤ t) := by
      intro c hc0 hc
      obtain ⟨t, t1, _, t3, _⟩ := whole_rung hc0 hc
      have hg := sand t (c * 2 ^ (up (rung (enc k)) + 54 - up (rung (enc n)))) (by
        rw [t3]
        obtain ⟨d, hd⟩ : ∃ d, d = up (rung (enc k)) + 54 - up (rung (enc n)) := ⟨_, rfl⟩
        rw [← hd, show up (rung (enc k)) + (54 + 52 - 52) = d + up (rung (enc n)) from by omega, Nat.pow_add]; ac_rfl)
      rw [t3] at hg
      refine ⟨t, t1, t3, fun h => hg.1 ?_, fun h => hg.2 ?_⟩
      · rw [show c * P * (k.natAbs * P) = c * k.natAbs * (P * P) from by ac_rfl, Nat.mul_assoc n.natAbs]
        exact Nat.mul_le_mul_right _ h
      · rw [show c * P * (k.natAbs * P) = c * k.natAbs * (P * P) from by ac_rfl, Nat.mul_assoc n.natAbs]
        exact Nat.mul_le_mul_right _ h
    have hi63 : INF < 2 ^ 63 := by decide
    have cast : ∀ c d : Int, (c.natAbs : Int) = d → ((c.natAbs * P : Nat) : Int) = d * P := by intro c d h; rw [Int.natCast_mul, h]
    by_cases hneg : n < 0
    · have hsn : sg (enc n) = true := by rw [wn.sg]; simpa using hneg
      rw [hsn] at hr
      -- lo is below nought
      have hlo : lo < 0 := by
        rcases Int.lt_or_le lo 0 with h | h
        · exact h
        · have := Int.mul_nonneg (Int.le_of_lt hk) h; omega
      obtain ⟨t, t1, t3, _, tb⟩ := sw lo.natAbs (by omega) hl
      have hrt : r ≤ t := tb (by
        have : (n.natAbs : Int) ≤ lo.natAbs * k.natAbs := by
          rw [show (n.natAbs : Int) = -n from by omega, show (lo.natAbs : Int) = -lo from by omega, show (k.natAbs : Int) = k from by omega, Int.neg_mul, Int.mul_comm lo]
          omega
        exact_mod_cast this)
      have hmin : min r INF = r := by omega
      rw [hmin] at hr
      refine ⟨_, hr, by rw [rung_word _ (by omega)]; omega, ?_, ?_⟩
      · unfold uv; rw [rung_word _ (by omega), sg_word _ (by omega), if_pos rfl]
        have := units_le hrt
        rw [t3] at this
        have h3 := cast lo (-lo) (by omega)
        rw [Int.neg_mul] at h3
        omega
      · unfold uv; rw [rung_word _ (by omega), sg_word _ (by omega), if_pos rfl]
        by_cases hhi : 0 ≤ hi
        · have := Int.mul_nonneg hhi (Int.le_of_lt hPI); omega
        · obtain ⟨t', _, t3', ta', _⟩ := sw hi.natAbs (by omega) hh
          have hrt' : t' ≤ r := ta' (by
            have : (hi.natAbs : Int) * k.natAbs ≤ n.natAbs := by
              rw [show (n.natAbs : Int) = -n from by omega, show (hi.natAbs : Int) = -hi from by omega, show (k.natAbs : Int) = k from by omega, Int.neg_mul, Int.mul_comm hi]
              omega
            exact_mod_cast this)
          have := units_le hrt'
          rw [t3'] at this
          have h3 := cast hi (-hi) (by omega)
          rw [Int.neg_mul] at h3
          omega
    · have hsn : sg (enc n) = false := by rw [wn.sg]; simp; omega
      rw [hsn] at hr
      have hhi : 0 < hi := by
        rcases Int.lt_or_le 0 hi with h | h
        · exact h
        · have := Int.mul_nonpos_of_nonneg_of_nonpos (Int.le_of_lt hk) h; omega
      obtain ⟨t, t1, t3, _, tb⟩ := sw hi.natAbs (by omega) hh
      have hrt : r ≤ t := tb (by
        have : (n.natAbs : Int) ≤ hi.natAbs * k.natAbs := by
          rw [show (n.natAbs : Int) = n from by omega, show (hi.natAbs : Int) = hi from by omega, show (k.natAbs : Int) = k from by omega, Int.mul_comm hi]
          omega
        exact_mod_cast this)
      have hmin : min r INF = r := by omega
      rw [hmin] at hr
      refine ⟨_, hr, by rw [rung_word _ (by omega)]; omega, ?_, ?_⟩
      · unfold uv; rw [rung_word _ (by omega), sg_word _ (by omega), if_neg (by simp)]
        by_cases hlo : lo ≤ 0
        · have := Int.mul_nonpos_of_nonpos_of_nonneg hlo (Int.le_of_lt hPI); omega
        · obtain ⟨t', _, t3', ta', _⟩ := sw lo.natAbs (by omega) hl
          have hrt' : t' ≤ r := ta' (by
            have : (lo.natAbs : Int) * k.natAbs ≤ n.natAbs := by
              rw [show (n.natAbs : Int) = n from by omega, show (lo.natAbs : Int) = lo from by omega, show (k.natAbs : Int) = k from by omega, Int.mul_comm lo]
              omega
            exact_mod_cast this)
          have := units_le hrt'
          rw [t3'] at this
          have h3 := cast lo lo (by omega)
          omega
      · unfold uv; rw [rung_word _ (by omega), sg_word _ (by omega), if_neg (by simp)]
        have := units_le hrt
        rw [t3] at this
        have h3 := cast hi hi (by omega)
        omega

/-- WHAT IS DIVIDED BY ONE. -/
theorem div_one_fin {x : Nat} (hx : x < 2 ^ 64) (hf : rung x < INF) : D.div x (enc 1) = some x := by
  have w1 : Whole 1 (enc 1) := enc_whole (by decide)
  have s1 := whole_shape w1 (by decide) (by decide)
  have hs1 : sg (enc 1) = false := by rw [w1.sg]; decide
  by_cases h0 : rung x = 0
  · rw [div_zero_num h0 w1.fin s1.2.2.2.2, hs1, Bool.xor_false, ← h0, word_of hx]
  · obtain ⟨r, hr, sand⟩ := div_rung hf w1.fin h0 s1.2.2.2.2
    rw [hs1, Bool.xor_false] at hr
    have hu : up (rung (enc 1)) = 1022 := by
      have h2 : units (rung (enc 1)) = P := by rw [units_of_whole w1]; simp
      obtain ⟨c, hc⟩ : ∃ c : Nat, c = 1022 := ⟨_, rfl⟩
      have h3 : units (c * 2 ^ 52 + 2 ^ 52) = P := by
        unfold units; rw [up_mk (by omega) (by omega), mg_mk (by omega) (by omega), ← Nat.pow_add, P_eq, show 52 + c = E from by rw [E_eq]; omega]
      rw [units_inj (h2.trans h3.symm), up_mk (by omega) (by omega), hc]
    have hl : (mg (rung x)).log2 ≤ 52 := by
      have := (Nat.log2_lt (n := mg (rung x)) (k := 53) (fun e => h0 (mg_eq_zero.1 e))).2 (mg_lt _); omega
    rw [log2_eq s1.1 s1.2.1, units_of_whole w1, hu] at sand
    have hg := sand (rung x) (mg (rung x) * 2 ^ (54 - (mg (rung x)).log2)) (by
      rw [show units (rung x) = mg (rung x) * 2 ^ up (rung x) from rfl, show 1022 + (54 + 52 - (mg (rung x)).log2) = (54 - (mg (rung x)).log2) + E from by rw [E_eq]; omega, Nat.pow_add, P_eq]
      ac_rfl)
    have e1 : (1 : Int).natAbs * P = P := by simp
    rw [e1] at hg
    have : r = rung x := Nat.le_antisymm (hg.2 (Nat.le_refl _)) (hg.1 (Nat.le_refl _))
    rw [hr, this, Nat.min_eq_left (Nat.le_of_lt hf), word_of hx]

theorem div_one_inf {x : Nat} (hx : x < 2 ^ 64) (hf : rung x = INF) : D.div x (enc 1) = some x := by
  have w1 : Whole 1 (enc 1) := enc_whole (by decide)
  have hs1 : sg (enc 1) = false := by rw [w1.sg]; decide
  unfold Format.div
  rw [read_inf hf, read_fin w1.fin]
  unfold Datum.quotient
  simp only [Option.map_some, Format.write, Option.some.injEq]
  rw [hs1, Bool.xor_false]
  show D.word (sg x) INF = x
  rw [← hf, word_of hx]

end Fl
