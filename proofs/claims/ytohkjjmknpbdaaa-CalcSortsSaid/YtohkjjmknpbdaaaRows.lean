/-
  No cell of these rows narrows 'for every input' (looked for: loops, veiled, ifaces, maps, wideKeys, modest, calm, conditions, laid).
  DERIVED. THE GIVEN ROWS OF THIS SEAT. 7 by the template 'for every input the law returns true; each argument reads behind the call as it read before'; 0 by the template 'total and deterministic' (their statements: YtohkjjmknpbdaaaTotals.lean).
  GIVEN WITH THE SEED: the statements are not yours to turn. If you find one false, say at which input.
  Laid BY PROGRAM, IN A SANDBOX (cutbox-rows.mjs): the forced cells as the released guide's own fill.sh prints them over the translation 4e3c0c97ed44f67b… (all of the seat's roots in one cut). By AI agents, Wed Nov 11 2026. No macro, syntax, notation, axiom, sorry.
-/
import Derived.Test.YtohkjjmknpbdaaaChecked
import GoSem.Claim
import GoSem.ClaimJoined
import GoSem.ClaimMapViews
import Derived.JoinedTies
import Derived.KernelRfl
namespace Go.Proofs.Ytohkjjmknpbdaaa
/- THE CELL 'sum', in the pinned program and in every row, IS THE sha256 OF THE DUMP (.gsa) THAT YtohkjjmknpbdaaaProg.lean LOADS. Nothing in Lean hashes anything: it is a label: what it is worth is what the hold of that sum in a sandbox is worth. -/
noncomputable def Try.pinned : Pinned := { name := "ytohkjjmknpbdaaa", sum := "4e3c0c97ed44f67b6f889bfe93df2a2aace5a4117a33d3dc36bbeb3657794596", checked := Try.checked }
namespace Rows
def none {H : Type} : Left H := { results := [], args := [] }

/-- 'reliquarylaw4.CalcWholes': WHATEVER THE INPUT: true; the input reads as it did. -/
def calcWholesSpec : ChangeSpec := { name := "calcWholes", fn := fun _ => fun
  | [d1, d2] => { results := [.lit (.bool true)], args := [d1, d2] }
  | _ => none }
def calcWholesRow : OpenClaim := { program := "ytohkjjmknpbdaaa", sum := "4e3c0c97ed44f67b6f889bfe93df2a2aace5a4117a33d3dc36bbeb3657794596", func := "reliquary/reliquarylaw4.CalcWholes", spec := "calcWholes", inPlace := ["math.Float64frombits", "math.Float64bits"], apart := false }
def CalcWholesSaid : Prop := calcWholesRow.holds Try.pinned (OpenSpec.ofChange calcWholesSpec)

/-- ITS FALSE NEIGHBOUR: 'it returns false'. Refute it at one input. -/
def calcWholesWrong : ChangeSpec := { name := "calcWholes", fn := fun _ => fun
  | [d1, d2] => { results := [.lit (.bool false)], args := [d1, d2] }
  | _ => none }
def CalcWholesWrongFalsely : Prop := calcWholesRow.holds Try.pinned (OpenSpec.ofChange calcWholesWrong)

/-- 'reliquarylaw4.CalcEdges': WHATEVER THE INPUT: true; the input reads as it did. -/
def calcEdgesSpec : ChangeSpec := { name := "calcEdges", fn := fun _ => fun
  | [d1, d2, d3, d4] => { results := [.lit (.bool true)], args := [d1, d2, d3, d4] }
  | _ => none }
def calcEdgesRow : OpenClaim := { program := "ytohkjjmknpbdaaa", sum := "4e3c0c97ed44f67b6f889bfe93df2a2aace5a4117a33d3dc36bbeb3657794596", func := "reliquary/reliquarylaw4.CalcEdges", spec := "calcEdges", inPlace := ["math.Float64frombits", "math.Float64bits"], apart := false }
def CalcEdgesSaid : Prop := calcEdgesRow.holds Try.pinned (OpenSpec.ofChange calcEdgesSpec)

/-- ITS FALSE NEIGHBOUR: 'it returns false'. Refute it at one input. -/
def calcEdgesWrong : ChangeSpec := { name := "calcEdges", fn := fun _ => fun
  | [d1, d2, d3, d4] => { results := [.lit (.bool false)], args := [d1, d2, d3, d4] }
  | _ => none }
def CalcEdgesWrongFalsely : Prop := calcEdgesRow.holds Try.pinned (OpenSpec.ofChange calcEdgesWrong)

/-- 'reliquarylaw4.CalcOnes': WHATEVER THE INPUT: true; the input reads as it did. -/
def calcOnesSpec : ChangeSpec := { name := "calcOnes", fn := fun _ => fun
  | [d1, d2] => { results := [.lit (.bool true)], args := [d1, d2] }
  | _ => none }
def calcOnesRow : OpenClaim := { program := "ytohkjjmknpbdaaa", sum := "4e3c0c97ed44f67b6f889bfe93df2a2aace5a4117a33d3dc36bbeb3657794596", func := "reliquary/reliquarylaw4.CalcOnes", spec := "calcOnes", inPlace := ["math.Float64frombits", "math.Float64bits"], apart := false }
def CalcOnesSaid : Prop := calcOnesRow.holds Try.pinned (OpenSpec.ofChange calcOnesSpec)

/-- ITS FALSE NEIGHBOUR: 'it returns false'. Refute it at one input. -/
def calcOnesWrong : ChangeSpec := { name := "calcOnes", fn := fun _ => fun
  | [d1, d2] => { results := [.lit (.bool false)], args := [d1, d2] }
  | _ => none }
def CalcOnesWrongFalsely : Prop := calcOnesRow.holds Try.pinned (OpenSpec.ofChange calcOnesWrong)

/-- 'reliquarylaw4.CalcDots': WHATEVER THE INPUT: true; the input reads as it did. -/
def calcDotsSpec : ChangeSpec := { name := "calcDots", fn := fun _ => fun
  | [d1, d2] => { results := [.lit (.bool true)], args := [d1, d2] }
  | _ => none }
def calcDotsRow : OpenClaim := { program := "ytohkjjmknpbdaaa", sum := "4e3c0c97ed44f67b6f889bfe93df2a2aace5a4117a33d3dc36bbeb3657794596", func := "reliquary/reliquarylaw4.CalcDots", spec := "calcDots", inPlace := ["math.Float64frombits", "math.Float64bits"], apart := false }
def CalcDotsSaid : Prop := calcDotsRow.holds Try.pinned (OpenSpec.ofChange calcDotsSpec)

/-- ITS FALSE NEIGHBOUR: 'it returns false'. Refute it at one input. -/
def calcDotsWrong : ChangeSpec := { name := "calcDots", fn := fun _ => fun
  | [d1, d2] => { results := [.lit (.bool false)], args := [d1, d2] }
  | _ => none }
def CalcDotsWrongFalsely : Prop := calcDotsRow.holds Try.pinned (OpenSpec.ofChange calcDotsWrong)

/-- 'reliquarylaw4.CalcTells': WHATEVER THE INPUT: true; the input reads as it did. -/
def calcTellsSpec : ChangeSpec := { name := "calcTells", fn := fun _ => fun
  | [d1, d2] => { results := [.lit (.bool true)], args := [d1, d2] }
  | _ => none }
def calcTellsRow : OpenClaim := { program := "ytohkjjmknpbdaaa", sum := "4e3c0c97ed44f67b6f889bfe93df2a2aace5a4117a33d3dc36bbeb3657794596", func := "reliquary/reliquarylaw4.CalcTells", spec := "calcTells", inPlace := ["math.Float64frombits", "math.Float64bits"], apart := false }
def CalcTellsSaid : Prop := calcTellsRow.holds Try.pinned (OpenSpec.ofChange calcTellsSpec)

/-- ITS FALSE NEIGHBOUR: 'it returns false'. Refute it at one input. -/
def calcTellsWrong : ChangeSpec := { name := "calcTells", fn := fun _ => fun
  | [d1, d2] => { results := [.lit (.bool false)], args := [d1, d2] }
  | _ => none }
def CalcTellsWrongFalsely : Prop := calcTellsRow.holds Try.pinned (OpenSpec.ofChange calcTellsWrong)

/-- 'reliquarylaw4.CalcRanks': WHATEVER THE INPUT: true; the input reads as it did. -/
def calcRanksSpec : ChangeSpec := { name := "calcRanks", fn := fun _ => fun
  | [d1, d2, d3] => { results := [.lit (.bool true)], args := [d1, d2, d3] }
  | _ => none }
def calcRanksRow : OpenClaim := { program := "ytohkjjmknpbdaaa", sum := "4e3c0c97ed44f67b6f889bfe93df2a2aace5a4117a33d3dc36bbeb3657794596", func := "reliquary/reliquarylaw4.CalcRanks", spec := "calcRanks", inPlace := ["math.Float64frombits", "math.Float64bits"], unfollowed := true, recurses := true, apart := false }
def CalcRanksSaid : Prop := calcRanksRow.holds Try.pinned (OpenSpec.ofChange calcRanksSpec)

/-- ITS FALSE NEIGHBOUR: 'it returns false'. Refute it at one input. -/
def calcRanksWrong : ChangeSpec := { name := "calcRanks", fn := fun _ => fun
  | [d1, d2, d3] => { results := [.lit (.bool false)], args := [d1, d2, d3] }
  | _ => none }
def CalcRanksWrongFalsely : Prop := calcRanksRow.holds Try.pinned (OpenSpec.ofChange calcRanksWrong)

/-- 'reliquarylaw4.CalcSorts': WHATEVER THE INPUT: true; the input reads as it did. -/
def calcSortsSpec : ChangeSpec := { name := "calcSorts", fn := fun _ => fun
  | [d1, d2] => { results := [.lit (.bool true)], args := [d1, d2] }
  | _ => none }
def calcSortsRow : OpenClaim := { program := "ytohkjjmknpbdaaa", sum := "4e3c0c97ed44f67b6f889bfe93df2a2aace5a4117a33d3dc36bbeb3657794596", func := "reliquary/reliquarylaw4.CalcSorts", spec := "calcSorts", inPlace := ["math.Float64frombits", "math.Float64bits"], unfollowed := true, recurses := true, apart := false }
def CalcSortsSaid : Prop := calcSortsRow.holds Try.pinned (OpenSpec.ofChange calcSortsSpec)

/-- ITS FALSE NEIGHBOUR: 'it returns false'. Refute it at one input. -/
def calcSortsWrong : ChangeSpec := { name := "calcSorts", fn := fun _ => fun
  | [d1, d2] => { results := [.lit (.bool false)], args := [d1, d2] }
  | _ => none }
def CalcSortsWrongFalsely : Prop := calcSortsRow.holds Try.pinned (OpenSpec.ofChange calcSortsWrong)

/- THE SECOND FORM. 'bulk': how many values and letters a reading holds, each counted each time it is reached (what is shared counts as often as it is met; a slice's spare places count too). A statement '..UptoSaid' is the law's where the arguments, and the package variables that the reading takes, are together of bulk at most 1048576: NARROWER than '..Said'. Prove '..Said' where nothing that the law and all that it calls make is longer than what came in: it says more and counts as full. Else prove '..UptoSaid'. A law counts once. -/
mutual
def uptoBulk {H : Type} : DataW H → Nat
  | .lit (.string bytes) => bytes.length + 1
  | .lit _ => 1
  | .nil => 1
  | .ptr d => uptoBulk d + 1
  | .slice elems spare => uptoBulkAll elems + uptoBulkAll spare + 1
  | .agg parts => uptoBulkAll parts + 1
  | .iface _ d => uptoBulk d + 1
  | .map entries => uptoBulkEntries entries + 1
  | .held _ => 1
def uptoBulkAll {H : Type} : List (DataW H) → Nat
  | [] => 0
  | d :: r => uptoBulk d + uptoBulkAll r
def uptoBulkEntries {H : Type} : List (Lit × DataW H) → Nat
  | [] => 0
  | x :: r => uptoBulkEntry x + uptoBulkEntries r
def uptoBulkEntry {H : Type} : Lit × DataW H → Nat
  | (.string bytes, d) => bytes.length + uptoBulk d + 1
  | (_, d) => uptoBulk d + 1
 end
def uptoSmall : (H : Type) → List (DataW H) → Bool := fun _ ds => decide (uptoBulkAll ds ≤ 1048576)
def OpenSpec.upto (s : _root_.Go.ChangeSpec) : _root_.Go.OpenSpec := { _root_.Go.OpenSpec.ofChange s with cond := some uptoSmall }

/-- 'reliquarylaw4.CalcWholes', WHERE WHAT IT READS IS OF BULK AT MOST 1048576: true; the input reads as it did. -/
def calcWholesUptoRow : OpenClaim := { program := "ytohkjjmknpbdaaa", sum := "4e3c0c97ed44f67b6f889bfe93df2a2aace5a4117a33d3dc36bbeb3657794596", func := "reliquary/reliquarylaw4.CalcWholes", spec := "calcWholes", inPlace := ["math.Float64frombits", "math.Float64bits"], apart := false, narrowed := true }
def CalcWholesUptoSaid : Prop := calcWholesUptoRow.holds Try.pinned (OpenSpec.upto calcWholesSpec)

/-- 'reliquarylaw4.CalcEdges', WHERE WHAT IT READS IS OF BULK AT MOST 1048576: true; the input reads as it did. -/
def calcEdgesUptoRow : OpenClaim := { program := "ytohkjjmknpbdaaa", sum := "4e3c0c97ed44f67b6f889bfe93df2a2aace5a4117a33d3dc36bbeb3657794596", func := "reliquary/reliquarylaw4.CalcEdges", spec := "calcEdges", inPlace := ["math.Float64frombits", "math.Float64bits"], apart := false, narrowed := true }
def CalcEdgesUptoSaid : Prop := calcEdgesUptoRow.holds Try.pinned (OpenSpec.upto calcEdgesSpec)

/-- 'reliquarylaw4.CalcOnes', WHERE WHAT IT READS IS OF BULK AT MOST 1048576: true; the input reads as it did. -/
def calcOnesUptoRow : OpenClaim := { program := "ytohkjjmknpbdaaa", sum := "4e3c0c97ed44f67b6f889bfe93df2a2aace5a4117a33d3dc36bbeb3657794596", func := "reliquary/reliquarylaw4.CalcOnes", spec := "calcOnes", inPlace := ["math.Float64frombits", "math.Float64bits"], apart := false, narrowed := true }
def CalcOnesUptoSaid : Prop := calcOnesUptoRow.holds Try.pinned (OpenSpec.upto calcOnesSpec)

/-- 'reliquarylaw4.CalcDots', WHERE WHAT IT READS IS OF BULK AT MOST 1048576: true; the input reads as it did. -/
def calcDotsUptoRow : OpenClaim := { program := "ytohkjjmknpbdaaa", sum := "4e3c0c97ed44f67b6f889bfe93df2a2aace5a4117a33d3dc36bbeb3657794596", func := "reliquary/reliquarylaw4.CalcDots", spec := "calcDots", inPlace := ["math.Float64frombits", "math.Float64bits"], apart := false, narrowed := true }
def CalcDotsUptoSaid : Prop := calcDotsUptoRow.holds Try.pinned (OpenSpec.upto calcDotsSpec)

/-- 'reliquarylaw4.CalcTells', WHERE WHAT IT READS IS OF BULK AT MOST 1048576: true; the input reads as it did. -/
def calcTellsUptoRow : OpenClaim := { program := "ytohkjjmknpbdaaa", sum := "4e3c0c97ed44f67b6f889bfe93df2a2aace5a4117a33d3dc36bbeb3657794596", func := "reliquary/reliquarylaw4.CalcTells", spec := "calcTells", inPlace := ["math.Float64frombits", "math.Float64bits"], apart := false, narrowed := true }
def CalcTellsUptoSaid : Prop := calcTellsUptoRow.holds Try.pinned (OpenSpec.upto calcTellsSpec)

/-- 'reliquarylaw4.CalcRanks', WHERE WHAT IT READS IS OF BULK AT MOST 1048576: true; the input reads as it did. -/
def calcRanksUptoRow : OpenClaim := { program := "ytohkjjmknpbdaaa", sum := "4e3c0c97ed44f67b6f889bfe93df2a2aace5a4117a33d3dc36bbeb3657794596", func := "reliquary/reliquarylaw4.CalcRanks", spec := "calcRanks", inPlace := ["math.Float64frombits", "math.Float64bits"], unfollowed := true, recurses := true, apart := false, narrowed := true }
def CalcRanksUptoSaid : Prop := calcRanksUptoRow.holds Try.pinned (OpenSpec.upto calcRanksSpec)

/-- 'reliquarylaw4.CalcSorts', WHERE WHAT IT READS IS OF BULK AT MOST 1048576: true; the input reads as it did. -/
def calcSortsUptoRow : OpenClaim := { program := "ytohkjjmknpbdaaa", sum := "4e3c0c97ed44f67b6f889bfe93df2a2aace5a4117a33d3dc36bbeb3657794596", func := "reliquary/reliquarylaw4.CalcSorts", spec := "calcSorts", inPlace := ["math.Float64frombits", "math.Float64bits"], unfollowed := true, recurses := true, apart := false, narrowed := true }
def CalcSortsUptoSaid : Prop := calcSortsUptoRow.holds Try.pinned (OpenSpec.upto calcSortsSpec)

end Rows
end Go.Proofs.Ytohkjjmknpbdaaa
