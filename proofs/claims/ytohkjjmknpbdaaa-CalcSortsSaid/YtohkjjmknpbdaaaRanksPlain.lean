/- Ranks among numbers in order: the plain law; and Floats, Sort, Rank by one form of rows. -/
import Derived.Test.YtohkjjmknpbdaaaSort
namespace Go.Proofs.Ytohkjjmknpbdaaa
open Go.RowKit Fl

theorem rankOf_mono (xs : List Nat) {p q : Nat} (h : code p ≤ code q) : rankOf xs p ≤ rankOf xs q := by
  unfold rankOf
  refine List.countP_mono_left fun x _ hx => ?_
  simp at hx ⊢; omega

theorem rankOf_eq (xs : List Nat) {p q : Nat} (h : code p = code q) : rankOf xs p = rankOf xs q := by unfold rankOf; rw [h]

theorem rankOf_perm {xs M : List Nat} (h : M.Perm xs) (y : Nat) : rankOf xs y = rankOf M y := h.symm.countP_eq _

theorem srt_at {M : List Nat} (h : Srt M) {i j : Nat} (hij : i ≤ j) (hj : j < M.length) : code (M.getD i 0) ≤ code (M.getD j 0) := by
  by_cases e : i = j
  · subst e; exact Nat.le_refl _
  · have := (List.pairwise_iff_getElem.1 h) i j (by omega) hj (by omega)
    simpa [List.getD, hj, show i < M.length by omega] using this

/-- in a row in order, so many as are below stand ahead -/
theorem rank_le {M : List Nat} (h : Srt M) {k : Nat} (hk : k < M.length) : rankOf M (M.getD k 0) ≤ k := by
  have e : rankOf M (M.getD k 0) = (M.take k).countP (fun x => decide (code x < code (M.getD k 0))) + (M.drop k).countP (fun x => decide (code x < code (M.getD k 0))) := by
    unfold rankOf
    rw [← List.countP_append, List.take_append_drop]
  have z : (M.drop k).countP (fun x => decide (code x < code (M.getD k 0))) = 0 := by
    rw [List.countP_eq_zero]
    intro x hx
    obtain ⟨i, hi, rfl⟩ := List.mem_iff_getElem.1 hx
    simp at hi
    have := srt_at h (i := k) (j := k + i) (by omega) (by omega)
    simp [List.getD, show k + i < M.length by omega] at this
    simp [List.getD]
    exact this
  have l := List.countP_le_length (p := fun x => decide (code x < code (M.getD k 0))) (l := M.take k)
  rw [List.length_take] at l
  omega

theorem rank_at {M : List Nat} (h : Srt M) (y : Nat) (hr : rankOf M y < M.length) : code y ≤ code (M.getD (rankOf M y) 0) := by
  by_cases hc : code y ≤ code (M.getD (rankOf M y) 0)
  · exact hc
  · exfalso
    have l : (M.take (rankOf M y + 1)).countP (fun x => decide (code x < code y)) = rankOf M y + 1 := by
      have e : (M.take (rankOf M y + 1)).countP (fun x => decide (code x < code y)) = (M.take (rankOf M y + 1)).length := by
        rw [List.countP_eq_length]
        intro x hx
        obtain ⟨i, hi, rfl⟩ := List.mem_iff_getElem.1 hx
        simp at hi
        have := srt_at h (i := i) (j := rankOf M y) (by omega) hr
        have g : M.getD i 0 = M[i] := by simp [List.getD, show i < M.length by omega]
        rw [g] at this
        simp
        omega
      rw [e]; simp; omega
    have s : rankOf M y = (M.take (rankOf M y + 1)).countP (fun x => decide (code x < code y)) + (M.drop (rankOf M y + 1)).countP (fun x => decide (code x < code y)) := by
      rw [← List.countP_append, List.take_append_drop]; rfl
    omega

theorem rank_tie {M : List Nat} (h : Srt M) {k : Nat} (hk : k < M.length) (hr : rankOf M (M.getD k 0) < k) : code (M.getD (rankOf M (M.getD k 0)) 0) = code (M.getD k 0) := by
  have a := rank_at h (M.getD k 0) (by omega)
  have b := srt_at h (i := rankOf M (M.getD k 0)) (j := k) (by omega) hk
  omega

/-- the elements ahead of a rank are below -/
theorem rank_prev {M : List Nat} (h : Srt M) (y : Nat) {i : Nat} (hi : i < rankOf M y) : code (M.getD i 0) < code y := by
  by_cases hc : code (M.getD i 0) < code y
  · exact hc
  · exfalso
    have hl := rankOf_le M y
    have s : rankOf M y = (M.take i).countP (fun x => decide (code x < code y)) + (M.drop i).countP (fun x => decide (code x < code y)) := by
      rw [← List.countP_append, List.take_append_drop]; rfl
    have z : (M.drop i).countP (fun x => decide (code x < code y)) = 0 := by
      rw [List.countP_eq_zero]
      intro x hx
      obtain ⟨j, hj, rfl⟩ := List.mem_iff_getElem.1 hx
      simp at hj
      have := srt_at h (i := i) (j := i + j) (by omega) (by omega)
      have g : M.getD (i + j) 0 = M[i + j] := by simp [List.getD, show i + j < M.length by omega]
      rw [g] at this
      simp
      omega
    have l := List.countP_le_length (p := fun x => decide (code x < code y)) (l := M.take i)
    rw [List.length_take] at l
    omega

/-- A row of floats as these laws meet it: nil, or a block of its own. -/
def Row (w : World) (a : Option Addr) (xs : List Nat) : Prop :=
  xs.length ≤ 60 ∧ W64 xs ∧ (xs = [] → a = none) ∧ ∀ i, i < xs.length → ∃ g, a = some ⟨g, 0, none⟩ ∧ g < w.heap.size ∧ w.cell? ⟨g, 0 + i, none⟩ = some (.float .f64 (xs.getD i 0))

theorem Row.later {w w' : World} {a : Option Addr} {xs : List Nat} (h : Row w a xs) (hb : Below w.heap.size w w') : Row w' a xs := by
  refine ⟨h.1, h.2.1, h.2.2.1, fun i hi => ?_⟩
  obtain ⟨g, e, h1, h2⟩ := h.2.2.2 i hi
  exact ⟨g, e, Nat.lt_of_lt_of_le h1 hb.size, (hb.cell (p := ⟨g, 0 + i, none⟩) h1).trans h2⟩

theorem Row.drewN {w : World} {a : Option Addr} {xs : List Nat} (h : Row w a xs) (n : Nat) : Row (w.drewN n) a xs := h

def RowEnd (w : World) (xs : List Nat) (e : Ending) (w' : World) : Prop := ∃ a c, e = .returned (.slice a xs.length c) ∧ (xs = [] → c = 0) ∧ Row w' a xs ∧ Below w.heap.size w w'

theorem floats_row (a : Option Addr) (cap : Nat) (zs : List Int) (w : World) (hz : Ins .u64 w a zs) :
    Calls Try.prog 25 #[.slice a zs.length cap] w (RowEnd w ((words zs).take 60)) := by
  by_cases h0 : zs = []
  · subst h0
    refine (floats_none a cap w).mono ?_
    rintro e w' ⟨rfl, rfl⟩
    exact ⟨none, 0, rfl, fun _ => rfl, ⟨by simp [words], by simp [words, W64], fun _ => rfl, by simp [words]⟩, Below.refl _ _⟩
  · refine (floats_any a cap zs w hz).mono ?_
    rintro e w' ⟨v, rfl, ho, hb⟩
    have hne : (words zs).take 60 ≠ [] := by
      intro e
      have := congrArg List.length e
      have hp := List.length_pos_iff.2 h0
      rw [List.length_take, List.length_nil] at this
      have hwl : (words zs).length = zs.length := by simp [words]
      omega
    have h64 := words_64 hz.2.1
    rcases ho.2 with ⟨_, e⟩ | ⟨g, c, cur, rfl, h1, h2, _⟩
    · exact absurd (List.eq_nil_of_length_eq_zero e) hne
    · refine ⟨_, _, rfl, fun e => absurd e hne, ⟨by simp; omega, h64, fun e => absurd e hne, fun i hi => ⟨g, rfl, (Array.getElem?_eq_some_iff.1 h2).1, ?_⟩⟩, hb⟩
      rw [Nat.zero_add]
      exact sr_cell (sr_own ho) hi

theorem sort_row (w : World) (a : Option Addr) (xs : List Nat) (n c : Nat) (hn : xs.length = n) (hc : xs = [] → c = 0) (h : Row w a xs) :
    Calls Try.prog 30 #[.slice a n c] w fun e w' => ∃ b M, e = .returned (.slice b n n) ∧ M.length = n ∧ M.Perm xs ∧ Srt M ∧ Row w' b M ∧ Below w.heap.size w w' := by
  by_cases h0 : xs = []
  · subst h0
    obtain rfl := h.2.2.1 rfl
    obtain rfl := hc rfl
    subst hn
    refine (sort_nil w).mono ?_
    rintro e w' ⟨rfl, rfl⟩
    exact ⟨none, [], rfl, rfl, List.Perm.refl _, List.Pairwise.nil, h, Below.refl _ _⟩
  · obtain ⟨g, rfl, _, _⟩ := h.2.2.2 0 (List.length_pos_iff.2 h0)
    have hl := h.1
    have hF : Fsl w (.slice (some ⟨g, 0, none⟩) n c) xs := ⟨h.2.1, by omega, .inr ⟨h0, g, 0, c, by rw [hn], fun i hi => by
      obtain ⟨g2, e, _, h2⟩ := h.2.2.2 i hi
      cases e
      exact h2⟩⟩
    refine (sort_some w xs n hn h0 (by omega) g 0 c h.2.1 hF).mono ?_
    rintro e w' ⟨v, M, rfl, h1, h2, h3, h4⟩
    have hM : M.length = n := by rw [h2.length_eq, hn]
    have hMn : M ≠ [] := by intro e; rw [e] at hM; have := List.length_pos_iff.2 h0; simp at hM; omega
    rcases h1 with ⟨_, e⟩ | ⟨g2, rfl, h5⟩
    · exact absurd e hMn
    · rw [hM]
      refine ⟨_, M, rfl, hM, h2, h3, ⟨by omega, w64_perm h2 h.2.1, fun e => absurd e hMn, fun i hi => ⟨g2, rfl, World.block_lt_of_cell? w' _ (h5 i hi), h5 i hi⟩⟩, h4⟩

theorem rank_row (w : World) (a : Option Addr) (xs : List Nat) (n c y : Nat) (hn : xs.length = n) (hy : y < 18446744073709551616) (h : Row w a xs) :
    Calls Try.prog 31 #[.slice a n c, .float .f64 y] w fun e w' => e = .returned (.int .i64 (rankOf xs y)) ∧ w = w' := by
  by_cases h0 : xs = []
  · subst h0
    subst hn
    exact rank_none a c y w
  · obtain ⟨g, rfl, _, _⟩ := h.2.2.2 0 (List.length_pos_iff.2 h0)
    have hl := h.1
    refine rank_some w g 0 c n y xs hn (by omega) hy h.2.1 fun i hi => ?_
    obtain ⟨g2, e, _, h2⟩ := h.2.2.2 i (by omega)
    cases e
    exact h2

end Go.Proofs.Ytohkjjmknpbdaaa
