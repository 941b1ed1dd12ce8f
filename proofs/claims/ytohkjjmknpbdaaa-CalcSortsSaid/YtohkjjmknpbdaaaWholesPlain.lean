/- The law 'CalcWholes': its plain part, and its walk: for whatever whole numbers and turn the call returns true and writes nothing that was there. -/
import Derived.Test.YtohkjjmknpbdaaaWhole
import Derived.OpenShut
namespace Go.Proofs.Ytohkjjmknpbdaaa
open Go.RowKit Fl

/-- A slice of integers that came in, by its elements. -/
def Ins (k : IntKind) (w : World) (a : Option Addr) (zs : List Int) : Prop :=
  zs.length ≤ maxLen ∧ (∀ z ∈ zs, (Lit.int k z).wf = true) ∧
    ∀ i, i < zs.length → ∃ b off, a = some ⟨b, off, none⟩ ∧ b < w.heap.size ∧ w.cell? ⟨b, off + i, none⟩ = some (.int k (zs.getD i 0))

/-- what the proof's frame tells of a slice of integers (its own words) -/
theorem ins_of_row {k : IntKind} {w : World} {a : Option Addr} {len cap : Nat} {zs : List Int}
    (h : (a = none ∧ len = 0 ∧ cap = 0 ∧ zs = []) ∨
      ∃ x, a = some x ∧ len ≤ cap ∧ cap ≤ maxLen ∧ zs.length = cap ∧ (∀ i, i < zs.length → w.cell? (x.add i) = some (.int k (zs.getD i 0))) ∧ ∀ n ∈ zs, (Lit.int k n).wf = true) :
    ∃ ys : List Int, ys.length = len ∧ Ins k w a ys := by
  rcases h with ⟨rfl, rfl, rfl, rfl⟩ | ⟨x, rfl, h1, h2, h3, h4, h5⟩
  · exact ⟨[], rfl, by simp, by simp, by simp⟩
  · refine ⟨zs.take len, by simp; omega, by simp; omega, fun z hz => h5 z (List.mem_of_mem_take hz), ?_⟩
    intro i hi
    have hi' : i < len ∧ i < zs.length := by simp at hi; omega
    obtain ⟨b, off, hx, hc⟩ := ints_at h4 (by omega)
    refine ⟨b, off, by rw [hx], ?_, ?_⟩
    · exact World.block_lt_of_cell? w _ (hc 0 (by omega))
    · rw [hc i hi'.2, List.getD_eq_getElem?_getD, List.getD_eq_getElem?_getD, List.getElem?_take_of_lt hi'.1]

theorem rot_eq (ns : List Int) (t : Nat) (h0 : ns ≠ []) :
    (List.range ns.length).map (fun i => ns.getD ((i + t) % ns.length) 0) = ns.drop (t % ns.length) ++ ns.take (t % ns.length) := by
  have hl : 0 < ns.length := List.length_pos_iff.2 h0
  have hd := Nat.mod_lt t hl
  have hm : ∀ i, (i + t) % ns.length = (i + t % ns.length) % ns.length := by intro i; simp
  generalize hdd : t % ns.length = d at *
  apply List.ext_getElem
  · simp; omega
  · intro i h1 h2
    simp only [List.length_map, List.length_range] at h1
    simp only [List.getElem_map, List.getElem_range, hm]
    by_cases hi : i + d < ns.length
    · rw [Nat.mod_eq_of_lt hi, List.getElem_append_left (by simp; omega)]
      simp only [List.getD, List.getElem_drop]
      rw [List.getElem?_eq_getElem hi]
      simp [Nat.add_comm]
    · have e : (i + d) % ns.length = i + d - ns.length := by
        rw [Nat.mod_eq_sub_mod (by omega), Nat.mod_eq_of_lt (by omega)]
      rw [e, List.getElem_append_right (by simp; omega)]
      simp [List.getD]
      rw [List.getElem?_eq_getElem (by omega)]
      simp
      congr 1
      omega

theorem rot_sum (ns : List Int) (t : Nat) : ((List.range ns.length).map (fun i => ns.getD ((i + t) % ns.length) 0)).sum = ns.sum := by
  by_cases h0 : ns = []
  · subst h0; rfl
  · rw [rot_eq ns t h0, List.sum_append, Int.add_comm, ← List.sum_append, List.take_append_drop]

theorem rot_small {ns : List Int} (h : Small ns) (t : Nat) : Small ((List.range ns.length).map (fun i => ns.getD ((i + t) % ns.length) 0)) := by
  by_cases h0 : ns = []
  · subst h0; exact ⟨by simp, by simp⟩
  · refine ⟨by simpa using h.1, ?_⟩
    rw [rot_eq ns t h0]
    intro n hn
    rcases List.mem_append.1 hn with hn | hn
    · exact h.2 n (List.mem_of_mem_drop hn)
    · exact h.2 n (List.mem_of_mem_take hn)

/-- the mean of small whole numbers, and where it lies -/
theorem mean_whole {ns : List Int} (h : Small ns) (h0 : ns ≠ []) :
    ∃ r lo hi, fOp .quo (enc ns.sum) (enc (ns.length : Int)) = some r ∧ meanO (ns.map enc) = some r ∧ rung r ≤ INF
      ∧ bestO (-1) posInf (ns.map enc) = some lo ∧ bestO 1 negInf (ns.map enc) = some hi
      ∧ (FloatKind.f64.format.order r lo == some .gt || FloatKind.f64.format.order r lo == some .eq) = true
      ∧ (FloatKind.f64.format.order r hi == some .lt || FloatKind.f64.format.order r hi == some .eq) = true := by
  match ns, h0 with
  | n :: ms, _ =>
  have h53 : ∀ m ∈ n :: ms, m.natAbs < 2 ^ 53 := fun m hm => by have := h.2 m hm; omega
  obtain ⟨l1, l2, l3⟩ := leastOf_le ms n
  obtain ⟨g1, g2, g3⟩ := mostOf_ge ms n
  have hlo : (leastOf ms n).natAbs < 2 ^ 53 := by
    rcases l3 with e | e
    · rw [e]; exact h53 n (by simp)
    · exact h53 _ (by simp [e])
  have hhi : (mostOf ms n).natAbs < 2 ^ 53 := by
    rcases g3 with e | e
    · rw [e]; exact h53 n (by simp)
    · exact h53 _ (by simp [e])
  have hb := sum_between (leastOf ms n) (mostOf ms n) (n :: ms) (by
    intro m hm
    rcases List.mem_cons.1 hm with rfl | hm
    · exact ⟨l1, g1⟩
    · exact ⟨l2 m hm, g2 m hm⟩)
  have hl100 := h.1
  have hlen : 0 < ((n :: ms).length : Int) := by simp
  obtain ⟨r, hr, hf, hu1, hu2⟩ := div_whole (n := (n :: ms).sum) (k := ((n :: ms).length : Int)) (lo := leastOf ms n) (hi := mostOf ms n) h.sum hlen (by omega) hlo hhi hb.1 hb.2
  have wl := enc_whole hlo
  have wh := enc_whole hhi
  refine ⟨r, _, _, hr, ?_, Nat.le_of_lt hf, least_cons n ms h53, most_cons n ms h53, ?_, ?_⟩
  · unfold meanO
    rw [if_neg (by simp), sumO_whole h, List.length_map]
    exact hr
  · rw [show FloatKind.f64.format.order r (enc (leastOf ms n)) = some (compare (uv r) (uv (enc (leastOf ms n)))) from order_fin hf wl.fin, wl.uv]
    rcases Int.lt_or_eq_of_le hu1 with e | e
    · rw [cmp_gt e]; rfl
    · rw [cmp_eq e.symm]; rfl
  · rw [show FloatKind.f64.format.order r (enc (mostOf ms n)) = some (compare (uv r) (uv (enc (mostOf ms n)))) from order_fin hf wh.fin, wh.uv]
    rcases Int.lt_or_eq_of_le hu2 with e | e
    · rw [cmp_lt e]; rfl
    · rw [cmp_eq e]; rfl

end Go.Proofs.Ytohkjjmknpbdaaa
