/- Floats that a call makes: appended one by one; a list read out of its words. -/
import Derived.Test.YtohkjjmknpbdaaaDots
namespace Go.Proofs.Ytohkjjmknpbdaaa
open Go.RowKit Fl

theorem Try.info24 : (Try.prog.info? 24).map (fun i => (i.zero, i.size, i.bytes)) = some (some (.float .f64 0), 1, 8) := by kernel_rfl

/-- A list of floats that the call itself has made. -/
def Own (w : World) (B : Nat) (v : Value) (xs : List Nat) : Prop := w.ownsRow B 24 1 v xs.length (xs.map (Value.float .f64))

theorem own_nil (w : World) (B : Nat) : Own w B (.slice none 0 0) [] := World.ownsRow_nil w B 24 1

theorem own_app {w wr w1 : World} {B : Nat} {v v' : Value} {xs : List Nat} {x : Nat} (hb : Below B w wr) (hB : B ≤ w.heap.size) (hown : Own wr B v xs)
    (hown' : w1.ownsRow B 24 1 v' (xs.length + 1) (xs.map (Value.float .f64) ++ [Value.float .f64 x])) (hgrow : (wr.alloc (.cells #[Value.float .f64 x] 24)).grownBy w1 v.ownBlock) :
    Own w1 B v' (xs ++ [x]) ∧ Below B w w1 := by
  refine ⟨?_, ?_⟩
  · unfold Own
    rw [List.length_append, List.map_append]
    exact hown'
  · have h0 := hb.size
    exact (hb.alloc (by omega) _).grown hgrow (by simp; omega) (fun k hk => (hown.lt k hk).1)

theorem own_fsl {w : World} {B : Nat} {v : Value} {xs : List Nat} (h : Own w B v xs) (h64 : ∀ x ∈ xs, x < 18446744073709551616) (hl : xs.length ≤ 140737488355328) : Fsl w v xs := by
  refine ⟨h64, hl, ?_⟩
  by_cases hx : xs = []
  · subst hx
    left
    refine ⟨rfl, ?_⟩
    rcases h.2 with ⟨rfl, _⟩ | ⟨g, cap, cur, rfl, _⟩
    · exact ⟨_, _, rfl⟩
    · exact ⟨_, _, rfl⟩
  · right
    refine ⟨hx, ?_⟩
    have h2 := h
    rcases h.2 with ⟨_, h0⟩ | ⟨g, cap, cur, rfl, _⟩
    · exact absurd (List.eq_nil_of_length_eq_zero h0) hx
    · refine ⟨g, 0, cap, rfl, ?_⟩
      intro i hi
      have := World.ownsRow.cells h2 (g := g) rfl i (.float .f64 (xs.getD i 0)) (by simp [List.getD, hi])
      by_cases h0 : i = 0
      · subst h0; simpa [Addr.add] using this
      · simpa [Addr.add, h0] using this

/-- the cells of a list stay where nothing but new memory is made -/
theorem Fsl.below {w w' : World} {v : Value} {xs : List Nat} (h : Fsl w v xs) {B : Nat} (hb : Below B w w') (hv : ∀ k, v.ownBlock = some k → k < B) : Fsl w' v xs := by
  obtain ⟨h1, h2, h3⟩ := h
  refine ⟨h1, h2, ?_⟩
  rcases h3 with h3 | ⟨hx, b, off, c, rfl, hc⟩
  · exact .inl h3
  · exact .inr ⟨hx, b, off, c, rfl, fun i hi => (hb.cell (p := ⟨b, off + i, none⟩) (hv b rfl)).trans (hc i hi)⟩

theorem Fsl.lt {w : World} {v : Value} {xs : List Nat} (h : Fsl w v xs) (hx : xs ≠ []) : ∀ k, v.ownBlock = some k → k < w.heap.size := by
  obtain ⟨_, _, h3⟩ := h
  rcases h3 with ⟨h3, _⟩ | ⟨_, b, off, c, rfl, hc⟩
  · exact absurd h3 hx
  · intro k hk
    simp [Value.ownBlock] at hk
    subst hk
    exact World.block_lt_of_cell? w _ (hc 0 (List.length_pos_iff.2 hx))

theorem Fsl.later {w w' : World} {v : Value} {xs : List Nat} (h : Fsl w v xs) (hb : Below w.heap.size w w') : Fsl w' v xs := by
  by_cases hx : xs = []
  · obtain ⟨h1, h2, h3⟩ := h
    refine ⟨h1, h2, ?_⟩
    rcases h3 with h3 | ⟨hy, _⟩
    · exact .inl h3
    · exact absurd hx hy
  · exact h.below hb (h.lt hx)

theorem frombits_nat (n : Nat) (w : World) : (callFunc 19 #[.int .u64 (n : Int)]).run Try.prog w = .ok (.value (.float .f64 n)) w := frombits_any n w

def FloatsEnd (xs : List Nat) (w : World) (e : Ending) (w' : World) : Prop := ∃ v, e = .returned v ∧ Own w' w.heap.size v xs ∧ Below w.heap.size w w'

def FloatsRel (xs : List Nat) (w : World) (B : Nat) (v i : Value) (wr : World) : Prop :=
  ∃ k : Nat, k ≤ xs.length ∧ k ≤ 60 ∧ i = .int .i64 k ∧ Own wr B v (xs.take k) ∧ Below B w wr

set_option maxHeartbeats 800000 in
theorem floats_some (xs : List Nat) (hl : xs.length ≤ 9223372036854775807) (b off c : Nat) (w : World) (hbw : b < w.heap.size)
    (hc : ∀ i, i < xs.length → w.cell? ⟨b, off + i, none⟩ = some (.int .u64 ((xs.getD i 0 : Nat) : Int))) :
    Calls Try.prog 25 #[.slice (some ⟨b, off, none⟩) xs.length c] w (FloatsEnd (xs.take 60) w) := by
  obtain ⟨i0, hi, hz0, hz1, hz2⟩ := info_parts Try.info24
  have hfb := frombits_nat
  obtain ⟨B, hB⟩ : ∃ B, Hid (B = w.heap.size) := ⟨_, rfl⟩
  have hBle : B ≤ w.heap.size := by have := hB.out; omega
  have hBb : b < B := by have := hB.out; omega
  go_enter Try.func25, Try.ntmps25
  go_wp2
  go_loopw [3, 4] (fun v i wr => FloatsRel xs w B v i wr) (fun _ i _ => xs.length - (intOf i).toNat)
  case atStart => exact ⟨0, Nat.zero_le _, Nat.zero_le _, rfl, by rw [List.take_zero]; exact own_nil _ _, Below.refl _ _⟩
  case round =>
    obtain ⟨k, hk, hk6, rfl, hown, hnx⟩ := hrel
    by_cases hlt : k < xs.length
    · by_cases hlt6 : k < 60
      · have hcell : wr.cell? ⟨b, off + k, none⟩ = some (.int .u64 ((xs.getD k 0 : Nat) : Int)) := (hnx.cell hBb).trans (hc k hlt)
        have hts : Hid (xs.take (k + 1) = xs.take k ++ [xs.getD k 0]) := Lib.hid (by rw [List.take_succ_eq_append_getElem hlt]; simp [List.getD, hlt])
        have hlen : (xs.take k).length = k := by simp; omega
        have hO := Lib.hid hown
        have hLen := Lib.hid hlen
        have hsz := hnx.size
        clear hc hown hlen
        generalize hX : xs.getD k 0 = x at *
        generalize hY : xs.take k = ys at *
        clear hX hY
        go_wp2_with (at_builtin; refine wpList_append_own _ rfl _ _ 23 rfl B 24 i0 (.float .f64 0) 1 8 Try.underlying23 hi hz0 hz1 hz2 rfl (by decide) _ _ _ rfl (hO.out.alloc _) ⟨wr.heap.size, 0, none⟩ 1 1 [.float .f64 x] rfl rfl ?c1 ?c2 ?c3 ?c4 ?c5 ?_)
        case c1 =>
          intro j u hj
          match j, hj with
          | 0, hj => simp at hj; subst hj; simp [Addr.add]
        case c2 => intro u hu; simp at hu; subst hu; rfl
        case c3 => have := hLen.out; unfold maxLen; omega
        case c4 => have := hLen.out; omega
        case c5 => simp; omega
        intro v' w1 hown' hgrow _
        have R := own_app hnx hBle hO.out hown' hgrow
        clear hown' hgrow hO hcell
        go_wp2
        go_roundw
        case rel => exact ⟨k + 1, by omega, by omega, by go_num, by rw [hts.out]; exact R.1, R.2⟩
        case measure => simp [intOf]; omega
      · obtain rfl : k = 60 := by omega
        have hg := hown
        clear hc hown
        go_wp2
        go_ret
        exact ⟨_, rfl, by rw [← hB.out]; exact hg, by rw [← hB.out]; exact hnx⟩
    · have e : xs.take k = xs.take 60 := by rw [List.take_of_length_le (by omega), List.take_of_length_le (by omega)]
      have hg := hown
      rw [e] at hg
      clear hc hown
      go_wp2
      go_ret
      exact ⟨_, rfl, by rw [← hB.out]; exact hg, by rw [← hB.out]; exact hnx⟩

end Go.Proofs.Ytohkjjmknpbdaaa
