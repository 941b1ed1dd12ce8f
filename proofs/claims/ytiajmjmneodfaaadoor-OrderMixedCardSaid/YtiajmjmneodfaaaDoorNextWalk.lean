/- OrderNext answers true: the walk. The texts are of a length that an int holds; the library's variable internal/bytealg.MaxLen holds some int. -/
import Derived.Test.YtiajmjmneodfaaaDoorNextsWalk
import Derived.Test.YtiajmjmneodfaaaDoorRefNext
namespace Go.Proofs.YtiajmjmneodfaaaDoor
open Go.RowKit Fl

theorem prefix_take : ∀ (l o : List UInt8), l.isPrefixOf o = (decide (l.length ≤ o.length) && (o.take l.length == l))
  | [], o => by simp
  | a :: l, [] => by simp
  | a :: l, c :: o => by
    rw [List.isPrefixOf, prefix_take l o]
    simp only [List.length_cons, List.take_succ_cons, Nat.add_le_add_iff_right, List.cons_beq_cons]
    by_cases h : a = c
    · subst h; simp
    · have h1 : (a == c) = false := by simpa using h
      have h2 : (c == a) = false := by simpa using Ne.symm h
      rw [h1, h2]; simp

theorem refNext_none (l : List UInt8) (hl : l.length ≤ 9223372036854775807) (h0 : cutN l = 0) (w : World) : Calls Tryd.prog 12 #[.string (bs l)] w fun e w' => e = .returned (.tuple #[.string ⟨#[]⟩, .bool false]) ∧ Below w.heap.size w w' := by
  refine (refNext_any l hl w).mono ?_
  rintro e w' ⟨rfl, hb⟩
  refine ⟨?_, hb⟩
  rw [nextL_none h0]; unfold nextB; rw [h0]; rfl
theorem refNext_some (l : List UInt8) (hl : l.length ≤ 9223372036854775807) (h0 : cutN l ≠ 0) (w : World) : Calls Tryd.prog 12 #[.string (bs l)] w fun e w' => e = .returned (.tuple #[.string (bs (nextL l)), .bool true]) ∧ Below w.heap.size w w' := by
  refine (refNext_any l hl w).mono ?_
  rintro e w' ⟨rfl, hb⟩
  refine ⟨?_, hb⟩
  have : nextB l = true := by unfold nextB; simpa using h0
  rw [this]

set_option maxHeartbeats 1600000 in
theorem next_walk_none (l o : List UInt8) (hl : l.length ≤ 9223372036854775807) (_ho : o.length ≤ 9223372036854775807) (h0 : cutN l = 0) (w : World) (hm : MaxIs w) :
    Calls Tryd.prog 4 #[.string (bs l), .string (bs o)] w (True1 w) := by
  have Hm := hm
  have c1 := Lib.hid (next_none l hl h0)
  have c2 := Lib.hid (refNext_none l hl h0)
  clear hm h0
  have hsz : (bs l).size = l.length := bs_size l
  have hso : (bs o).size = o.length := bs_size o
  by_cases hlo : l.length ≤ o.length
  · have hd : decide (l.length ≤ o.length) = true := decide_eq_true hlo
    have hsl := run_slice_to_bs (P := Tryd.prog) 9 Tryd.underlying9 o l.length hlo
    go_enter Tryd.func4, Tryd.ntmps4
    go_wp2_with fail
    refine (c1.out w).mono ?_
    rintro e w1 ⟨rfl, h1⟩
    go_wp2_with fail
    refine (c2.out w1).mono ?_
    rintro e w2 ⟨rfl, h2⟩
    have h2' := h1.trans (h2.mono h1.size)
    go_wp2_with fail
    refine (awake_any w2 (Hm.below h2')).mono ?_
    rintro e w3 ⟨rfl, h3⟩
    have h3' := h2'.trans (h3.mono h2'.size)
    go_wp2
    go_ret
    exact ⟨rfl, h3'⟩
  · have hd : decide (l.length ≤ o.length) = false := decide_eq_false hlo
    go_enter Tryd.func4, Tryd.ntmps4
    go_wp2_with fail
    refine (c1.out w).mono ?_
    rintro e w1 ⟨rfl, h1⟩
    go_wp2_with fail
    refine (c2.out w1).mono ?_
    rintro e w2 ⟨rfl, h2⟩
    have h2' := h1.trans (h2.mono h1.size)
    go_wp2_with fail
    refine (awake_any w2 (Hm.below h2')).mono ?_
    rintro e w3 ⟨rfl, h3⟩
    have h3' := h2'.trans (h3.mono h2'.size)
    go_wp2
    go_ret
    exact ⟨rfl, h3'⟩

/-- the way on which the other text is long enough, and where not: what the tests answer, laid ahead -/
theorem next_walk_some (l o : List UInt8) (hl : l.length ≤ 9223372036854775807) (_ho : o.length ≤ 9223372036854775807) (h0 : cutN l ≠ 0) (w : World) (hm : MaxIs w) :
    Calls Tryd.prog 4 #[.string (bs l), .string (bs o)] w (True1 w) := by
  have Hm := hm
  have c1 := Lib.hid (next_some l hl h0)
  have c2 := Lib.hid (refNext_some l hl h0)
  have hbt := between h0 o
  rw [prefix_take] at hbt
  clear hm h0
  have hsz : (bs l).size = l.length := bs_size l
  have hso : (bs o).size = o.length := bs_size o
  have hp : Op.bytesLess (bs o).toList (bs l).toList = Op.bytesLess o l := by rw [bs_list, bs_list]
  have hq : Op.bytesLess (bs o).toList (bs (nextL l)).toList = Op.bytesLess o (nextL l) := by rw [bs_list, bs_list]
  have hg : ((bs (o.take l.length)).toList == (bs l).toList) = (o.take l.length == l) := by rw [bs_list, bs_list]
  generalize Op.bytesLess o l = p at hp hbt
  generalize Op.bytesLess o (nextL l) = q at hq hbt
  generalize (o.take l.length == l) = g at hg hbt
  generalize bs (nextL l) = y at *
  by_cases hlo : l.length ≤ o.length
  · have hd : decide (l.length ≤ o.length) = true := decide_eq_true hlo
    rw [hd, Bool.true_and] at hbt
    subst hbt
    have hsl := run_slice_to_bs (P := Tryd.prog) 9 Tryd.underlying9 o l.length hlo
    cases p <;> cases q <;>
    · simp only [Bool.not_true, Bool.not_false, Bool.false_and, Bool.true_and] at hg
      go_enter Tryd.func4, Tryd.ntmps4
      go_wp2_with fail
      refine (c1.out w).mono ?_
      rintro e w1 ⟨rfl, h1⟩
      go_wp2_with fail
      refine (c2.out w1).mono ?_
      rintro e w2 ⟨rfl, h2⟩
      have h2' := h1.trans (h2.mono h1.size)
      go_wp2_with fail
      refine (awake_any w2 (Hm.below h2')).mono ?_
      rintro e w3 ⟨rfl, h3⟩
      have h3' := h2'.trans (h3.mono h2'.size)
      go_wp2
      go_ret
      exact ⟨rfl, h3'⟩
  · have hd : decide (l.length ≤ o.length) = false := decide_eq_false hlo
    rw [hd, Bool.false_and] at hbt
    cases p <;> cases q <;> simp at hbt <;>
    · go_enter Tryd.func4, Tryd.ntmps4
      go_wp2_with fail
      refine (c1.out w).mono ?_
      rintro e w1 ⟨rfl, h1⟩
      go_wp2_with fail
      refine (c2.out w1).mono ?_
      rintro e w2 ⟨rfl, h2⟩
      have h2' := h1.trans (h2.mono h1.size)
      go_wp2_with fail
      refine (awake_any w2 (Hm.below h2')).mono ?_
      rintro e w3 ⟨rfl, h3⟩
      have h3' := h2'.trans (h3.mono h2'.size)
      go_wp2
      go_ret
      exact ⟨rfl, h3'⟩

theorem orderNext_walk (l o : List UInt8) (hl : l.length ≤ 140737488351232) (ho : o.length ≤ 140737488351232) (w : World) (hm : MaxIs w) :
    Calls Tryd.prog 4 #[.string (bs l), .string (bs o)] w (True1 w) := by
  by_cases h0 : cutN l = 0
  · exact next_walk_none l o (by omega) (by omega) h0 w hm
  · exact next_walk_some l o (by omega) (by omega) h0 w hm
end Go.Proofs.YtiajmjmneodfaaaDoor
