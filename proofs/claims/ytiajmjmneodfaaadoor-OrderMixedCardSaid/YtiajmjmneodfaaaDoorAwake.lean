/- What the document fixes answers true: the walk of awake. The library's variable internal/bytealg.MaxLen holds some int. -/
import Derived.Test.YtiajmjmneodfaaaDoorScore
import Derived.Test.YtiajmjmneodfaaaDoorText
namespace Go.Proofs.YtiajmjmneodfaaaDoor
open Go.RowKit Fl

theorem next_ab (w : World) : Calls Tryd.prog 11 #[.string ⟨#[97, 98]⟩] w fun e w' => e = .returned (.tuple #[.string ⟨#[97, 99]⟩, .bool true]) ∧ Below w.heap.size w w' := by
  refine (next_any [97, 98] (by decide) w).mono ?_
  rintro e w' ⟨rfl, hb⟩
  exact ⟨rfl, hb⟩
theorem next_ff (w : World) : Calls Tryd.prog 11 #[.string ⟨#[255]⟩] w fun e w' => e = .returned (.tuple #[.string ⟨#[]⟩, .bool false]) ∧ Below w.heap.size w w' := by
  refine (next_any [255] (by decide) w).mono ?_
  rintro e w' ⟨rfl, hb⟩
  exact ⟨rfl, hb⟩
theorem text_a (w : World) (hm : MaxIs w) : Calls Tryd.prog 13 #[.string ⟨#[97]⟩] w fun e w' => e = .returned (.string ⟨#[97, 0, 1]⟩) ∧ Below w.heap.size w w' := by
  refine (text_any [97] (by decide) w hm).mono ?_
  rintro e w' ⟨rfl, hb⟩
  exact ⟨rfl, hb⟩
def Len8 (w : World) (e : Ending) (w' : World) : Prop := ∃ s : ByteArray, e = .returned (.string s) ∧ s.size = 8 ∧ Below w.heap.size w w'
theorem score_one (w : World) : Calls Tryd.prog 18 #[.float .f64 4607182418800017408] w (Len8 w) := by
  refine (score_any 4607182418800017408 (by omega) w).mono ?_
  rintro e w' ⟨rfl, hb⟩
  exact ⟨_, rfl, by rw [bs_size]; rfl, hb⟩

def True1 (w : World) (e : Ending) (w' : World) : Prop := e = .returned (.bool true) ∧ Below w.heap.size w w'

set_option maxHeartbeats 800000 in
theorem awake_any (w : World) (hm : MaxIs w) : Calls Tryd.prog 10 #[] w (True1 w) := by
  have Hm := hm
  clear hm
  go_enter Tryd.func10, Tryd.ntmps10
  go_wp2_with fail
  refine (next_ab w).mono ?_
  rintro e w1 ⟨rfl, h1⟩
  go_wp2_with fail
  refine (next_ff w1).mono ?_
  rintro e w2 ⟨rfl, h2⟩
  go_wp2_with fail
  have h2' := h1.trans (h2.mono h1.size)
  refine (text_a w2 (Hm.below h2')).mono ?_
  rintro e w3 ⟨rfl, h3⟩
  have h3' := h2'.trans (h3.mono h2'.size)
  go_wp2_with fail
  refine (score_one w3).mono ?_
  rintro e w4 ⟨s, rfl, hs, h4⟩
  have h4' := h3'.trans (h4.mono h3'.size)
  go_wp2
  go_ret
  exact ⟨rfl, h4'⟩
end Go.Proofs.YtiajmjmneodfaaaDoor
