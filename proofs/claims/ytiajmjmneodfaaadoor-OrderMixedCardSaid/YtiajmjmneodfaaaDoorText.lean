/- order.Text hands back a text's code: the walk. The text is shorter than 4294967281 bytes (the contract of the library's ReplaceAll), and the library's variable internal/bytealg.MaxLen holds some int. -/
import Derived.Test.YtiajmjmneodfaaaDoorEsc
import Derived.Test.YtiajmjmneodfaaaDoorNext
import Derived.Test.YtiajmjmneodfaaaDoorShelf
namespace Go.Proofs.YtiajmjmneodfaaaDoor
open Go.RowKit

/-- the library's variable MaxLen holds some int -/
def MaxIs (w : World) : Prop := ∃ m : Int, w.cell? ⟨1, 0, none⟩ = some (.int .i64 m)

theorem MaxIs.later {B : Nat} {w w' : World} (h : MaxIs w) (hB : 1 < B) (hb : Below B w w') : MaxIs w' := by
  obtain ⟨m, hm⟩ := h
  exact ⟨m, (hb.cell (p := ⟨1, 0, none⟩) hB).trans hm⟩
theorem MaxIs.lt {w : World} (h : MaxIs w) : 1 < w.heap.size := by
  obtain ⟨m, hm⟩ := h
  exact World.block_lt_of_cell? w _ hm
theorem MaxIs.below {w w' : World} (h : MaxIs w) (hb : Below w.heap.size w w') : MaxIs w' := h.later h.lt hb

theorem replace_any (l : List UInt8) (hl : l.length < 4294967281) (w : World) (hm : MaxIs w) :
    Calls Tryd.prog 30 #[.string (bs l), .string ⟨#[0]⟩, .string ⟨#[0, 255]⟩] w fun e w' => e = .returned (.string (bs (esc l))) ∧ Below w.heap.size w w' := by
  obtain ⟨m, hm⟩ := hm
  have hle := Lib.countB_le ⟨#[0]⟩ (by decide) _ (bs l) (Nat.le_refl _)
  have hsz := bs_size l
  have h2 : (ByteArray.mk #[0, 255]).size = 2 := rfl
  refine (Tryd.strings_ReplaceAll (bs l) ⟨#[0]⟩ ⟨#[0, 255]⟩ m w (by omega) hm (by decide) (by rw [h2]; omega)).mono ?_
  rintro e w' ⟨rfl, hb⟩
  refine ⟨?_, hb⟩
  rw [bs_data]
  rw [show (ByteArray.mk #[0]).data.toList = [0] from rfl, show (ByteArray.mk #[0, 255]).data.toList = [0, 255] from rfl, replaceAll_esc]
  rfl

def TextEnd (l : List UInt8) (w : World) (e : Ending) (w' : World) : Prop := e = .returned (.string (bs (textL l))) ∧ Below w.heap.size w w'

set_option maxHeartbeats 400000 in
theorem text_any (l : List UInt8) (hl : l.length < 4294967281) (w : World) (hm : MaxIs w) : Calls Tryd.prog 13 #[.string (bs l)] w (TextEnd l w) := by
  have hcat : ∀ w, (Op.stringOp .add (bs (esc l)) ⟨#[0, 1]⟩).run Tryd.prog w = .ok (.string (bs (textL l))) w := fun w => by
    have := esc_len l
    rw [show (ByteArray.mk #[0, 1]) = bs [0, 1] from rfl, run_string_add_sum w _ _ (by simp [bs_size]; omega), bs_add]
    rfl
  have Hm := hm
  clear hm
  go_enter Tryd.func13, Tryd.ntmps13
  go_wp2_with fail
  refine (replace_any l hl w Hm).mono ?_
  rintro e w' ⟨rfl, hb⟩
  go_wp2
  go_ret
  exact ⟨rfl, hb⟩
end Go.Proofs.YtiajmjmneodfaaaDoor
