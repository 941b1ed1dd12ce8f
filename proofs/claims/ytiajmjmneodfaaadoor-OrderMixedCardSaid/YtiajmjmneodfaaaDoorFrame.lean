/- What all the cards' proofs of this seat share: the world that is the witness, with the listed variables laid; the cell of internal/bytealg.MaxLen. No condition. -/
import Derived.Test.YtiajmjmneodfaaaDoorAwake
import Derived.Test.YtiajmjmneodfaaaDoorRows
import Derived.WalkKit
import Derived.ProofKit
import Derived.OpenShut
import Derived.ShutString
import Derived.ChangeOld
import Derived.Below
import Derived.Deep.DeepHandedRow
import Derived.Lib.LaidTab
import Derived.LaidMore
import Derived.Lay
import Derived.Shelf.Vars
namespace Go.Proofs.YtiajmjmneodfaaaDoor
open Go.RowKit Go.ChangeShapes Go.WideShapes Go.ChangeAt

theorem own : ownKnob Tryd.prog.godebug = none := by kernel_rfl

theorem laidOut : laidOutB Tryd.prog = true := by kernel_rfl

/-- the listed variables -/
def laidL : List (String × DataW Unit) := Rows.orderNextsRow.laid

/-- the witness's world -/
noncomputable def witW (os : Os) : World := World.laidAll Tryd.prog os laidL

theorem wit_met (os : Os) (args : Array Value) : laidMet Tryd.prog laidL ((witW os).forCall (fun _ _ => 0) ⟨#[], args, []⟩).memory :=
  laidMet_laidAll args (by kernel_rfl) (by kernel_rfl)

theorem max_is {W : World} (h : W.ShapedOpen Tryd.prog) : MaxIs W :=
  cell_of_shapedOpen_int (P := Tryd.prog) (g := 1) (t := 3) (zero := #[.int .i64 0]) h (of_decide_eq_true (by kernel_rfl)) (by kernel_rfl) rfl (by kernel_rfl) (by kernel_rfl) Tryd.underlying3

theorem word_of {a : Int} (h : (Lit.int .u64 a).wf = true) : ∃ b : Nat, a = (b : Int) ∧ b < 18446744073709551616 := by
  have h2 : 0 ≤ a ∧ a ≤ 18446744073709551615 := by simpa [Lit.wf, IntKind.min, IntKind.max, IntKind.signed, IntKind.bits] using h
  exact ⟨a.toNat, by omega, by omega⟩
end Go.Proofs.YtiajmjmneodfaaaDoor
