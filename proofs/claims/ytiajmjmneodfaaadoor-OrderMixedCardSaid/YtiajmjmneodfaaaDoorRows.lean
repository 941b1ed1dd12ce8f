/-
  NARROWER THAN 'FOR EVERY INPUT', by the rows' own cells (each row's printed sentence says how): OrderNexts: laid · OrderNext: laid · OrderChains: laid · OrderTexts: laid · OrderScores: laid · OrderKeys: laid · OrderMixed: laid.
  DERIVED. THE GIVEN ROWS OF THIS SEAT. 7 by the template 'for every input the law returns true; each argument reads behind the call as it read before'; 0 by the template 'total and deterministic' (their statements: YtiajmjmneodfaaaDoorTotals.lean).
  GIVEN WITH THE SEED: the statements are not yours to turn. If you find one false, say at which input.
  Laid BY PROGRAM, IN A SANDBOX (cutbox-rows.mjs): the forced cells as the released guide's own fill.sh prints them over the translation 9c3c9220f56d31c5… (all of the seat's roots in one cut). By AI agents, Wed Nov 11 2026. No macro, syntax, notation, axiom, sorry.
-/
import Derived.Test.YtiajmjmneodfaaaDoorChecked
import GoSem.PinnedTables
import GoSem.Claim
import GoSem.ClaimJoined
import GoSem.ClaimMapViews
import Derived.JoinedTies
import Derived.KernelRfl
namespace Go.Proofs.YtiajmjmneodfaaaDoor
/- THE CELL 'sum', in the pinned program and in every row, IS THE sha256 OF THE DUMP (.gsa) THAT YtiajmjmneodfaaaDoorProg.lean LOADS. Nothing in Lean hashes anything: it is a label: what it is worth is what the hold of that sum in a sandbox is worth. -/
noncomputable def Tryd.pinned : Pinned := { name := "ytiajmjmneodfaaadoor", sum := "9c3c9220f56d31c5e4cf7634f734d812a8214fdc2c4636d3c6c7d55a157363ec", checked := Tryd.checked }
namespace Rows
def none {H : Type} : Left H := { results := [], args := [] }

/- WHAT THE LISTED PACKAGE-LEVEL VARIABLES READ AS WHEN THE CALL BEGINS. Each datum BY PROGRAM (the guide's laid-datum.mjs) off the statement by which the dump's own 'gosem.cut.vars' lays the variable. In a bare row this is a premise. The card (YtiajmjmneodfaaaDoorCards.lean) ties it to the program's text. -/
def laid_unicode_utf8_acceptRanges {H : Type} : DataW H := .agg [.agg [.lit (.int .u8 128), .lit (.int .u8 191)], .agg [.lit (.int .u8 160), .lit (.int .u8 191)], .agg [.lit (.int .u8 128), .lit (.int .u8 159)], .agg [.lit (.int .u8 144), .lit (.int .u8 191)], .agg [.lit (.int .u8 128), .lit (.int .u8 143)], .agg [.lit (.int .u8 0), .lit (.int .u8 0)], .agg [.lit (.int .u8 0), .lit (.int .u8 0)], .agg [.lit (.int .u8 0), .lit (.int .u8 0)], .agg [.lit (.int .u8 0), .lit (.int .u8 0)], .agg [.lit (.int .u8 0), .lit (.int .u8 0)], .agg [.lit (.int .u8 0), .lit (.int .u8 0)], .agg [.lit (.int .u8 0), .lit (.int .u8 0)], .agg [.lit (.int .u8 0), .lit (.int .u8 0)], .agg [.lit (.int .u8 0), .lit (.int .u8 0)], .agg [.lit (.int .u8 0), .lit (.int .u8 0)], .agg [.lit (.int .u8 0), .lit (.int .u8 0)]]
/-- One of Go's own tables, pinned by name: the form's constant. -/
def laid_unicode_utf8_first : DataW Unit := Go.Pinned.utf8First

/-- 'reliquarylaw13.OrderNexts': WHATEVER THE INPUT: true; the input reads as it did. -/
def orderNextsSpec : ChangeSpec := { name := "orderNexts", fn := fun _ => fun
  | [d1, d2] => { results := [.lit (.bool true)], args := [d1, d2] }
  | _ => none }
def orderNextsRow : OpenClaim := { program := "ytiajmjmneodfaaadoor", sum := "9c3c9220f56d31c5e4cf7634f734d812a8214fdc2c4636d3c6c7d55a157363ec", func := "reliquary/reliquarylaw13.OrderNexts", spec := "orderNexts", inPlace := ["internal/bytealg.CountString", "internal/bytealg.IndexByteString", "internal/bytealg.IndexString", "internal/abi.NoEscape", "internal/bytealg.MakeNoZero", "math.Float64bits"], named := ["internal/bytealg.MaxLen", "unicode/utf8.first", "unicode/utf8.acceptRanges"], apart := false, laid := [("unicode/utf8.acceptRanges", laid_unicode_utf8_acceptRanges), ("unicode/utf8.first", laid_unicode_utf8_first)] }
def OrderNextsSaid : Prop := orderNextsRow.holds Tryd.pinned (OpenSpec.ofChange orderNextsSpec)

/-- ITS FALSE NEIGHBOUR: 'it returns false'. Refute it at one input. -/
def orderNextsWrong : ChangeSpec := { name := "orderNexts", fn := fun _ => fun
  | [d1, d2] => { results := [.lit (.bool false)], args := [d1, d2] }
  | _ => none }
def OrderNextsWrongFalsely : Prop := orderNextsRow.holds Tryd.pinned (OpenSpec.ofChange orderNextsWrong)

/-- 'reliquarylaw13.OrderNext': WHATEVER THE INPUT: true; the input reads as it did. -/
def orderNextSpec : ChangeSpec := { name := "orderNext", fn := fun _ => fun
  | [d1, d2] => { results := [.lit (.bool true)], args := [d1, d2] }
  | _ => none }
def orderNextRow : OpenClaim := { program := "ytiajmjmneodfaaadoor", sum := "9c3c9220f56d31c5e4cf7634f734d812a8214fdc2c4636d3c6c7d55a157363ec", func := "reliquary/reliquarylaw13.OrderNext", spec := "orderNext", inPlace := ["internal/bytealg.CountString", "internal/bytealg.IndexByteString", "internal/bytealg.IndexString", "internal/abi.NoEscape", "internal/bytealg.MakeNoZero", "math.Float64bits"], named := ["internal/bytealg.MaxLen", "unicode/utf8.first", "unicode/utf8.acceptRanges"], apart := false, laid := [("unicode/utf8.acceptRanges", laid_unicode_utf8_acceptRanges), ("unicode/utf8.first", laid_unicode_utf8_first)] }
def OrderNextSaid : Prop := orderNextRow.holds Tryd.pinned (OpenSpec.ofChange orderNextSpec)

/-- ITS FALSE NEIGHBOUR: 'it returns false'. Refute it at one input. -/
def orderNextWrong : ChangeSpec := { name := "orderNext", fn := fun _ => fun
  | [d1, d2] => { results := [.lit (.bool false)], args := [d1, d2] }
  | _ => none }
def OrderNextWrongFalsely : Prop := orderNextRow.holds Tryd.pinned (OpenSpec.ofChange orderNextWrong)

/-- 'reliquarylaw13.OrderChains': WHATEVER THE INPUT: true; the input reads as it did. -/
def orderChainsSpec : ChangeSpec := { name := "orderChains", fn := fun _ => fun
  | [d1, d2] => { results := [.lit (.bool true)], args := [d1, d2] }
  | _ => none }
def orderChainsRow : OpenClaim := { program := "ytiajmjmneodfaaadoor", sum := "9c3c9220f56d31c5e4cf7634f734d812a8214fdc2c4636d3c6c7d55a157363ec", func := "reliquary/reliquarylaw13.OrderChains", spec := "orderChains", inPlace := ["internal/bytealg.CountString", "internal/bytealg.IndexByteString", "internal/bytealg.IndexString", "internal/abi.NoEscape", "internal/bytealg.MakeNoZero", "math.Float64bits"], named := ["internal/bytealg.MaxLen", "unicode/utf8.first", "unicode/utf8.acceptRanges"], apart := false, laid := [("unicode/utf8.acceptRanges", laid_unicode_utf8_acceptRanges), ("unicode/utf8.first", laid_unicode_utf8_first)] }
def OrderChainsSaid : Prop := orderChainsRow.holds Tryd.pinned (OpenSpec.ofChange orderChainsSpec)

/-- ITS FALSE NEIGHBOUR: 'it returns false'. Refute it at one input. -/
def orderChainsWrong : ChangeSpec := { name := "orderChains", fn := fun _ => fun
  | [d1, d2] => { results := [.lit (.bool false)], args := [d1, d2] }
  | _ => none }
def OrderChainsWrongFalsely : Prop := orderChainsRow.holds Tryd.pinned (OpenSpec.ofChange orderChainsWrong)

/-- 'reliquarylaw13.OrderTexts': WHATEVER THE INPUT: true; the input reads as it did. -/
def orderTextsSpec : ChangeSpec := { name := "orderTexts", fn := fun _ => fun
  | [d1, d2, d3, d4, d5] => { results := [.lit (.bool true)], args := [d1, d2, d3, d4, d5] }
  | _ => none }
def orderTextsRow : OpenClaim := { program := "ytiajmjmneodfaaadoor", sum := "9c3c9220f56d31c5e4cf7634f734d812a8214fdc2c4636d3c6c7d55a157363ec", func := "reliquary/reliquarylaw13.OrderTexts", spec := "orderTexts", inPlace := ["internal/bytealg.CountString", "internal/bytealg.IndexByteString", "internal/bytealg.IndexString", "internal/abi.NoEscape", "internal/bytealg.MakeNoZero", "math.Float64bits"], named := ["internal/bytealg.MaxLen", "unicode/utf8.first", "unicode/utf8.acceptRanges"], apart := false, laid := [("unicode/utf8.acceptRanges", laid_unicode_utf8_acceptRanges), ("unicode/utf8.first", laid_unicode_utf8_first)] }
def OrderTextsSaid : Prop := orderTextsRow.holds Tryd.pinned (OpenSpec.ofChange orderTextsSpec)

/-- ITS FALSE NEIGHBOUR: 'it returns false'. Refute it at one input. -/
def orderTextsWrong : ChangeSpec := { name := "orderTexts", fn := fun _ => fun
  | [d1, d2, d3, d4, d5] => { results := [.lit (.bool false)], args := [d1, d2, d3, d4, d5] }
  | _ => none }
def OrderTextsWrongFalsely : Prop := orderTextsRow.holds Tryd.pinned (OpenSpec.ofChange orderTextsWrong)

/-- 'reliquarylaw13.OrderScores': WHATEVER THE INPUT: true; the input reads as it did. -/
def orderScoresSpec : ChangeSpec := { name := "orderScores", fn := fun _ => fun
  | [d1, d2, d3] => { results := [.lit (.bool true)], args := [d1, d2, d3] }
  | _ => none }
def orderScoresRow : OpenClaim := { program := "ytiajmjmneodfaaadoor", sum := "9c3c9220f56d31c5e4cf7634f734d812a8214fdc2c4636d3c6c7d55a157363ec", func := "reliquary/reliquarylaw13.OrderScores", spec := "orderScores", inPlace := ["math.Float64frombits", "math.Float64bits", "internal/bytealg.CountString", "internal/bytealg.IndexByteString", "internal/bytealg.IndexString", "internal/abi.NoEscape", "internal/bytealg.MakeNoZero"], named := ["internal/bytealg.MaxLen", "unicode/utf8.first", "unicode/utf8.acceptRanges"], apart := false, laid := [("unicode/utf8.acceptRanges", laid_unicode_utf8_acceptRanges), ("unicode/utf8.first", laid_unicode_utf8_first)] }
def OrderScoresSaid : Prop := orderScoresRow.holds Tryd.pinned (OpenSpec.ofChange orderScoresSpec)

/-- ITS FALSE NEIGHBOUR: 'it returns false'. Refute it at one input. -/
def orderScoresWrong : ChangeSpec := { name := "orderScores", fn := fun _ => fun
  | [d1, d2, d3] => { results := [.lit (.bool false)], args := [d1, d2, d3] }
  | _ => none }
def OrderScoresWrongFalsely : Prop := orderScoresRow.holds Tryd.pinned (OpenSpec.ofChange orderScoresWrong)

/-- 'reliquarylaw13.OrderKeys': WHATEVER THE INPUT: true; the input reads as it did. -/
def orderKeysSpec : ChangeSpec := { name := "orderKeys", fn := fun _ => fun
  | [d1, d2, d3, d4, d5] => { results := [.lit (.bool true)], args := [d1, d2, d3, d4, d5] }
  | _ => none }
def orderKeysRow : OpenClaim := { program := "ytiajmjmneodfaaadoor", sum := "9c3c9220f56d31c5e4cf7634f734d812a8214fdc2c4636d3c6c7d55a157363ec", func := "reliquary/reliquarylaw13.OrderKeys", spec := "orderKeys", inPlace := ["math.Float64frombits", "math.Float64bits", "internal/bytealg.CountString", "internal/bytealg.IndexByteString", "internal/bytealg.IndexString", "internal/abi.NoEscape", "internal/bytealg.MakeNoZero"], named := ["internal/bytealg.MaxLen", "unicode/utf8.first", "unicode/utf8.acceptRanges"], apart := false, laid := [("unicode/utf8.acceptRanges", laid_unicode_utf8_acceptRanges), ("unicode/utf8.first", laid_unicode_utf8_first)] }
def OrderKeysSaid : Prop := orderKeysRow.holds Tryd.pinned (OpenSpec.ofChange orderKeysSpec)

/-- ITS FALSE NEIGHBOUR: 'it returns false'. Refute it at one input. -/
def orderKeysWrong : ChangeSpec := { name := "orderKeys", fn := fun _ => fun
  | [d1, d2, d3, d4, d5] => { results := [.lit (.bool false)], args := [d1, d2, d3, d4, d5] }
  | _ => none }
def OrderKeysWrongFalsely : Prop := orderKeysRow.holds Tryd.pinned (OpenSpec.ofChange orderKeysWrong)

/-- 'reliquarylaw13.OrderMixed': WHATEVER THE INPUT: true; the input reads as it did. -/
def orderMixedSpec : ChangeSpec := { name := "orderMixed", fn := fun _ => fun
  | [d1, d2, d3, d4] => { results := [.lit (.bool true)], args := [d1, d2, d3, d4] }
  | _ => none }
def orderMixedRow : OpenClaim := { program := "ytiajmjmneodfaaadoor", sum := "9c3c9220f56d31c5e4cf7634f734d812a8214fdc2c4636d3c6c7d55a157363ec", func := "reliquary/reliquarylaw13.OrderMixed", spec := "orderMixed", inPlace := ["math.Float64frombits", "math.Float64bits", "internal/bytealg.CountString", "internal/bytealg.IndexByteString", "internal/bytealg.IndexString", "internal/abi.NoEscape", "internal/bytealg.MakeNoZero"], named := ["internal/bytealg.MaxLen", "unicode/utf8.first", "unicode/utf8.acceptRanges"], apart := false, laid := [("unicode/utf8.acceptRanges", laid_unicode_utf8_acceptRanges), ("unicode/utf8.first", laid_unicode_utf8_first)] }
def OrderMixedSaid : Prop := orderMixedRow.holds Tryd.pinned (OpenSpec.ofChange orderMixedSpec)

/-- ITS FALSE NEIGHBOUR: 'it returns false'. Refute it at one input. -/
def orderMixedWrong : ChangeSpec := { name := "orderMixed", fn := fun _ => fun
  | [d1, d2, d3, d4] => { results := [.lit (.bool false)], args := [d1, d2, d3, d4] }
  | _ => none }
def OrderMixedWrongFalsely : Prop := orderMixedRow.holds Tryd.pinned (OpenSpec.ofChange orderMixedWrong)

/- THE SECOND FORM. 'bulk': how many values and letters a reading holds, each counted each time it is reached (what is shared counts as often as it is met; a slice's spare places count too). A statement '..UptoSaid' is the law's where the arguments, and the package variables that the reading takes, are together of bulk at most 1048576: NARROWER than '..Said'. Prove '..Said' where nothing that the law and all that it calls make is longer than what came in: it says more and counts as full. Else prove '..UptoSaid'. A law counts once. -/
mutual
def uptoBulk {H : Type} : DataW H → Nat
  | .lit (.string bytes) => bytes.length + 1
  | .lit _ => 1
  | .nil => 1
  | .ptr d => uptoBulk d + 1
  | .slice elems spare => uptoBulkAll elems + uptoBulkAll spare + 1
  | .agg parts => uptoBulkAll parts + 1
  | .iface _ d => uptoBulk d + 1
  | .map entries => uptoBulkEntries entries + 1
  | .held _ => 1
def uptoBulkAll {H : Type} : List (DataW H) → Nat
  | [] => 0
  | d :: r => uptoBulk d + uptoBulkAll r
def uptoBulkEntries {H : Type} : List (Lit × DataW H) → Nat
  | [] => 0
  | x :: r => uptoBulkEntry x + uptoBulkEntries r
def uptoBulkEntry {H : Type} : Lit × DataW H → Nat
  | (.string bytes, d) => bytes.length + uptoBulk d + 1
  | (_, d) => uptoBulk d + 1
 end
def uptoSmall : (H : Type) → List (DataW H) → Bool := fun _ ds => decide (uptoBulkAll ds ≤ 1048576)
def OpenSpec.upto (s : _root_.Go.ChangeSpec) : _root_.Go.OpenSpec := { _root_.Go.OpenSpec.ofChange s with cond := some uptoSmall }

/-- 'reliquarylaw13.OrderNexts', WHERE WHAT IT READS IS OF BULK AT MOST 1048576: true; the input reads as it did. -/
def orderNextsUptoRow : OpenClaim := { program := "ytiajmjmneodfaaadoor", sum := "9c3c9220f56d31c5e4cf7634f734d812a8214fdc2c4636d3c6c7d55a157363ec", func := "reliquary/reliquarylaw13.OrderNexts", spec := "orderNexts", inPlace := ["internal/bytealg.CountString", "internal/bytealg.IndexByteString", "internal/bytealg.IndexString", "internal/abi.NoEscape", "internal/bytealg.MakeNoZero", "math.Float64bits"], named := ["internal/bytealg.MaxLen", "unicode/utf8.first", "unicode/utf8.acceptRanges"], apart := false, laid := [("unicode/utf8.acceptRanges", laid_unicode_utf8_acceptRanges), ("unicode/utf8.first", laid_unicode_utf8_first)], narrowed := true }
def OrderNextsUptoSaid : Prop := orderNextsUptoRow.holds Tryd.pinned (OpenSpec.upto orderNextsSpec)

/-- 'reliquarylaw13.OrderNext', WHERE WHAT IT READS IS OF BULK AT MOST 1048576: true; the input reads as it did. -/
def orderNextUptoRow : OpenClaim := { program := "ytiajmjmneodfaaadoor", sum := "9c3c9220f56d31c5e4cf7634f734d812a8214fdc2c4636d3c6c7d55a157363ec", func := "reliquary/reliquarylaw13.OrderNext", spec := "orderNext", inPlace := ["internal/bytealg.CountString", "internal/bytealg.IndexByteString", "internal/bytealg.IndexString", "internal/abi.NoEscape", "internal/bytealg.MakeNoZero", "math.Float64bits"], named := ["internal/bytealg.MaxLen", "unicode/utf8.first", "unicode/utf8.acceptRanges"], apart := false, laid := [("unicode/utf8.acceptRanges", laid_unicode_utf8_acceptRanges), ("unicode/utf8.first", laid_unicode_utf8_first)], narrowed := true }
def OrderNextUptoSaid : Prop := orderNextUptoRow.holds Tryd.pinned (OpenSpec.upto orderNextSpec)

/-- 'reliquarylaw13.OrderChains', WHERE WHAT IT READS IS OF BULK AT MOST 1048576: true; the input reads as it did. -/
def orderChainsUptoRow : OpenClaim := { program := "ytiajmjmneodfaaadoor", sum := "9c3c9220f56d31c5e4cf7634f734d812a8214fdc2c4636d3c6c7d55a157363ec", func := "reliquary/reliquarylaw13.OrderChains", spec := "orderChains", inPlace := ["internal/bytealg.CountString", "internal/bytealg.IndexByteString", "internal/bytealg.IndexString", "internal/abi.NoEscape", "internal/bytealg.MakeNoZero", "math.Float64bits"], named := ["internal/bytealg.MaxLen", "unicode/utf8.first", "unicode/utf8.acceptRanges"], apart := false, laid := [("unicode/utf8.acceptRanges", laid_unicode_utf8_acceptRanges), ("unicode/utf8.first", laid_unicode_utf8_first)], narrowed := true }
def OrderChainsUptoSaid : Prop := orderChainsUptoRow.holds Tryd.pinned (OpenSpec.upto orderChainsSpec)

/-- 'reliquarylaw13.OrderTexts', WHERE WHAT IT READS IS OF BULK AT MOST 1048576: true; the input reads as it did. -/
def orderTextsUptoRow : OpenClaim := { program := "ytiajmjmneodfaaadoor", sum := "9c3c9220f56d31c5e4cf7634f734d812a8214fdc2c4636d3c6c7d55a157363ec", func := "reliquary/reliquarylaw13.OrderTexts", spec := "orderTexts", inPlace := ["internal/bytealg.CountString", "internal/bytealg.IndexByteString", "internal/bytealg.IndexString", "internal/abi.NoEscape", "internal/bytealg.MakeNoZero", "math.Float64bits"], named := ["internal/bytealg.MaxLen", "unicode/utf8.first", "unicode/utf8.acceptRanges"], apart := false, laid := [("unicode/utf8.acceptRanges", laid_unicode_utf8_acceptRanges), ("unicode/utf8.first", laid_unicode_utf8_first)], narrowed := true }
def OrderTextsUptoSaid : Prop := orderTextsUptoRow.holds Tryd.pinned (OpenSpec.upto orderTextsSpec)

/-- 'reliquarylaw13.OrderScores', WHERE WHAT IT READS IS OF BULK AT MOST 1048576: true; the input reads as it did. -/
def orderScoresUptoRow : OpenClaim := { program := "ytiajmjmneodfaaadoor", sum := "9c3c9220f56d31c5e4cf7634f734d812a8214fdc2c4636d3c6c7d55a157363ec", func := "reliquary/reliquarylaw13.OrderScores", spec := "orderScores", inPlace := ["math.Float64frombits", "math.Float64bits", "internal/bytealg.CountString", "internal/bytealg.IndexByteString", "internal/bytealg.IndexString", "internal/abi.NoEscape", "internal/bytealg.MakeNoZero"], named := ["internal/bytealg.MaxLen", "unicode/utf8.first", "unicode/utf8.acceptRanges"], apart := false, laid := [("unicode/utf8.acceptRanges", laid_unicode_utf8_acceptRanges), ("unicode/utf8.first", laid_unicode_utf8_first)], narrowed := true }
def OrderScoresUptoSaid : Prop := orderScoresUptoRow.holds Tryd.pinned (OpenSpec.upto orderScoresSpec)

/-- 'reliquarylaw13.OrderKeys', WHERE WHAT IT READS IS OF BULK AT MOST 1048576: true; the input reads as it did. -/
def orderKeysUptoRow : OpenClaim := { program := "ytiajmjmneodfaaadoor", sum := "9c3c9220f56d31c5e4cf7634f734d812a8214fdc2c4636d3c6c7d55a157363ec", func := "reliquary/reliquarylaw13.OrderKeys", spec := "orderKeys", inPlace := ["math.Float64frombits", "math.Float64bits", "internal/bytealg.CountString", "internal/bytealg.IndexByteString", "internal/bytealg.IndexString", "internal/abi.NoEscape", "internal/bytealg.MakeNoZero"], named := ["internal/bytealg.MaxLen", "unicode/utf8.first", "unicode/utf8.acceptRanges"], apart := false, laid := [("unicode/utf8.acceptRanges", laid_unicode_utf8_acceptRanges), ("unicode/utf8.first", laid_unicode_utf8_first)], narrowed := true }
def OrderKeysUptoSaid : Prop := orderKeysUptoRow.holds Tryd.pinned (OpenSpec.upto orderKeysSpec)

/-- 'reliquarylaw13.OrderMixed', WHERE WHAT IT READS IS OF BULK AT MOST 1048576: true; the input reads as it did. -/
def orderMixedUptoRow : OpenClaim := { program := "ytiajmjmneodfaaadoor", sum := "9c3c9220f56d31c5e4cf7634f734d812a8214fdc2c4636d3c6c7d55a157363ec", func := "reliquary/reliquarylaw13.OrderMixed", spec := "orderMixed", inPlace := ["math.Float64frombits", "math.Float64bits", "internal/bytealg.CountString", "internal/bytealg.IndexByteString", "internal/bytealg.IndexString", "internal/abi.NoEscape", "internal/bytealg.MakeNoZero"], named := ["internal/bytealg.MaxLen", "unicode/utf8.first", "unicode/utf8.acceptRanges"], apart := false, laid := [("unicode/utf8.acceptRanges", laid_unicode_utf8_acceptRanges), ("unicode/utf8.first", laid_unicode_utf8_first)], narrowed := true }
def OrderMixedUptoSaid : Prop := orderMixedUptoRow.holds Tryd.pinned (OpenSpec.upto orderMixedSpec)

end Rows
end Go.Proofs.YtiajmjmneodfaaaDoor
