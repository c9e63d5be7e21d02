/-
  No cell of these rows narrows 'for every input' (looked for: loops, veiled, ifaces, maps, wideKeys, modest, calm, conditions, laid).
  DERIVED. THE GIVEN ROWS OF THIS SEAT. 8 by the template 'for every input the law returns true; each argument reads behind the call as it read before'; 0 by the template 'total and deterministic' (their statements: YtmcfmikpcmbmbaaTotals.lean).
  GIVEN WITH THE SEED: the statements are not yours to turn. If you find one false, say at which input.
  Laid BY PROGRAM, IN A SANDBOX (cutbox-rows.mjs): the forced cells as the released guide's own fill.sh prints them over the translation 328ecd376544d71f… (all of the seat's roots in one cut). By AI agents, Wed Nov 11 2026. No macro, syntax, notation, axiom, sorry.
-/
import Derived.Test.YtmcfmikpcmbmbaaChecked
import GoSem.Claim
import GoSem.ClaimJoined
import GoSem.ClaimMapViews
import Derived.JoinedTies
import Derived.KernelRfl
namespace Go.Proofs.Ytmcfmikpcmbmbaa
/- THE CELL 'sum', in the pinned program and in every row, IS THE sha256 OF THE DUMP (.gsa) THAT YtmcfmikpcmbmbaaProg.lean LOADS. Nothing in Lean hashes anything: it is a label: what it is worth is what the hold of that sum in a sandbox is worth. -/
noncomputable def Try.pinned : Pinned := { name := "ytmcfmikpcmbmbaa", sum := "328ecd376544d71fc040c64e496c3cfc5e38958b7e9daf8e05a1e147d02204db", checked := Try.checked }
namespace Rows
def none {H : Type} : Left H := { results := [], args := [] }

/-- 'wealdlaw02.WeightTells': WHATEVER THE INPUT: true; the input reads as it did. -/
def weightTellsSpec : ChangeSpec := { name := "weightTells", fn := fun _ => fun
  | [d1, d2, d3] => { results := [.lit (.bool true)], args := [d1, d2, d3] }
  | _ => none }
def weightTellsRow : OpenClaim := { program := "ytmcfmikpcmbmbaa", sum := "328ecd376544d71fc040c64e496c3cfc5e38958b7e9daf8e05a1e147d02204db", func := "weald/wealdlaw02.WeightTells", spec := "weightTells", inPlace := ["math.Float64bits", "math.Float64frombits"], unfollowed := true, recurses := true, apart := false }
def WeightTellsSaid : Prop := weightTellsRow.holds Try.pinned (OpenSpec.ofChange weightTellsSpec)

/-- ITS FALSE NEIGHBOUR: 'it returns false'. Refute it at one input. -/
def weightTellsWrong : ChangeSpec := { name := "weightTells", fn := fun _ => fun
  | [d1, d2, d3] => { results := [.lit (.bool false)], args := [d1, d2, d3] }
  | _ => none }
def WeightTellsWrongFalsely : Prop := weightTellsRow.holds Try.pinned (OpenSpec.ofChange weightTellsWrong)

/-- 'wealdlaw02.WeightBack': WHATEVER THE INPUT: true; the input reads as it did. -/
def weightBackSpec : ChangeSpec := { name := "weightBack", fn := fun _ => fun
  | [d] => { results := [.lit (.bool true)], args := [d] }
  | _ => none }
def weightBackRow : OpenClaim := { program := "ytmcfmikpcmbmbaa", sum := "328ecd376544d71fc040c64e496c3cfc5e38958b7e9daf8e05a1e147d02204db", func := "weald/wealdlaw02.WeightBack", spec := "weightBack", inPlace := ["math.Float64bits", "math.Float64frombits"], unfollowed := true, recurses := true, apart := false }
def WeightBackSaid : Prop := weightBackRow.holds Try.pinned (OpenSpec.ofChange weightBackSpec)

/-- ITS FALSE NEIGHBOUR: 'it returns false'. Refute it at one input. -/
def weightBackWrong : ChangeSpec := { name := "weightBack", fn := fun _ => fun
  | [d] => { results := [.lit (.bool false)], args := [d] }
  | _ => none }
def WeightBackWrongFalsely : Prop := weightBackRow.holds Try.pinned (OpenSpec.ofChange weightBackWrong)

/-- 'wealdlaw02.WeightCompares': WHATEVER THE INPUT: true; the input reads as it did. -/
def weightComparesSpec : ChangeSpec := { name := "weightCompares", fn := fun _ => fun
  | [d1, d2] => { results := [.lit (.bool true)], args := [d1, d2] }
  | _ => none }
def weightComparesRow : OpenClaim := { program := "ytmcfmikpcmbmbaa", sum := "328ecd376544d71fc040c64e496c3cfc5e38958b7e9daf8e05a1e147d02204db", func := "weald/wealdlaw02.WeightCompares", spec := "weightCompares", inPlace := ["math.Float64bits", "math.Float64frombits"], unfollowed := true, recurses := true, apart := false }
def WeightComparesSaid : Prop := weightComparesRow.holds Try.pinned (OpenSpec.ofChange weightComparesSpec)

/-- ITS FALSE NEIGHBOUR: 'it returns false'. Refute it at one input. -/
def weightComparesWrong : ChangeSpec := { name := "weightCompares", fn := fun _ => fun
  | [d1, d2] => { results := [.lit (.bool false)], args := [d1, d2] }
  | _ => none }
def WeightComparesWrongFalsely : Prop := weightComparesRow.holds Try.pinned (OpenSpec.ofChange weightComparesWrong)

/-- 'wealdlaw02.WeightScales': WHATEVER THE INPUT: true; the input reads as it did. -/
def weightScalesSpec : ChangeSpec := { name := "weightScales", fn := fun _ => fun
  | [d] => { results := [.lit (.bool true)], args := [d] }
  | _ => none }
def weightScalesRow : OpenClaim := { program := "ytmcfmikpcmbmbaa", sum := "328ecd376544d71fc040c64e496c3cfc5e38958b7e9daf8e05a1e147d02204db", func := "weald/wealdlaw02.WeightScales", spec := "weightScales", inPlace := ["math.Float64bits", "math.Float64frombits"], unfollowed := true, recurses := true, apart := false }
def WeightScalesSaid : Prop := weightScalesRow.holds Try.pinned (OpenSpec.ofChange weightScalesSpec)

/-- ITS FALSE NEIGHBOUR: 'it returns false'. Refute it at one input. -/
def weightScalesWrong : ChangeSpec := { name := "weightScales", fn := fun _ => fun
  | [d] => { results := [.lit (.bool false)], args := [d] }
  | _ => none }
def WeightScalesWrongFalsely : Prop := weightScalesRow.holds Try.pinned (OpenSpec.ofChange weightScalesWrong)

/-- 'wealdlaw02.WeightOrder': WHATEVER THE INPUT: true; the input reads as it did. -/
def weightOrderSpec : ChangeSpec := { name := "weightOrder", fn := fun _ => fun
  | [d1, d2, d3] => { results := [.lit (.bool true)], args := [d1, d2, d3] }
  | _ => none }
def weightOrderRow : OpenClaim := { program := "ytmcfmikpcmbmbaa", sum := "328ecd376544d71fc040c64e496c3cfc5e38958b7e9daf8e05a1e147d02204db", func := "weald/wealdlaw02.WeightOrder", spec := "weightOrder", inPlace := ["math.Float64bits", "math.Float64frombits"], unfollowed := true, recurses := true, apart := false }
def WeightOrderSaid : Prop := weightOrderRow.holds Try.pinned (OpenSpec.ofChange weightOrderSpec)

/-- ITS FALSE NEIGHBOUR: 'it returns false'. Refute it at one input. -/
def weightOrderWrong : ChangeSpec := { name := "weightOrder", fn := fun _ => fun
  | [d1, d2, d3] => { results := [.lit (.bool false)], args := [d1, d2, d3] }
  | _ => none }
def WeightOrderWrongFalsely : Prop := weightOrderRow.holds Try.pinned (OpenSpec.ofChange weightOrderWrong)

/-- 'wealdlaw02.WeightTurned': WHATEVER THE INPUT: true; the input reads as it did. -/
def weightTurnedSpec : ChangeSpec := { name := "weightTurned", fn := fun _ => fun
  | [d1, d2] => { results := [.lit (.bool true)], args := [d1, d2] }
  | _ => none }
def weightTurnedRow : OpenClaim := { program := "ytmcfmikpcmbmbaa", sum := "328ecd376544d71fc040c64e496c3cfc5e38958b7e9daf8e05a1e147d02204db", func := "weald/wealdlaw02.WeightTurned", spec := "weightTurned", inPlace := ["math.Float64bits", "math.Float64frombits"], unfollowed := true, recurses := true, apart := false }
def WeightTurnedSaid : Prop := weightTurnedRow.holds Try.pinned (OpenSpec.ofChange weightTurnedSpec)

/-- ITS FALSE NEIGHBOUR: 'it returns false'. Refute it at one input. -/
def weightTurnedWrong : ChangeSpec := { name := "weightTurned", fn := fun _ => fun
  | [d1, d2] => { results := [.lit (.bool false)], args := [d1, d2] }
  | _ => none }
def WeightTurnedWrongFalsely : Prop := weightTurnedRow.holds Try.pinned (OpenSpec.ofChange weightTurnedWrong)

/-- 'wealdlaw02.WeightRows': WHATEVER THE INPUT: true; the input reads as it did. -/
def weightRowsSpec : ChangeSpec := { name := "weightRows", fn := fun _ => fun
  | [d1, d2] => { results := [.lit (.bool true)], args := [d1, d2] }
  | _ => none }
def weightRowsRow : OpenClaim := { program := "ytmcfmikpcmbmbaa", sum := "328ecd376544d71fc040c64e496c3cfc5e38958b7e9daf8e05a1e147d02204db", func := "weald/wealdlaw02.WeightRows", spec := "weightRows", inPlace := ["math.Float64bits", "math.Float64frombits"], unfollowed := true, recurses := true, apart := false }
def WeightRowsSaid : Prop := weightRowsRow.holds Try.pinned (OpenSpec.ofChange weightRowsSpec)

/-- ITS FALSE NEIGHBOUR: 'it returns false'. Refute it at one input. -/
def weightRowsWrong : ChangeSpec := { name := "weightRows", fn := fun _ => fun
  | [d1, d2] => { results := [.lit (.bool false)], args := [d1, d2] }
  | _ => none }
def WeightRowsWrongFalsely : Prop := weightRowsRow.holds Try.pinned (OpenSpec.ofChange weightRowsWrong)

/-- 'wealdlaw02.WeightSmall': WHATEVER THE INPUT: true; the input reads as it did. -/
def weightSmallSpec : ChangeSpec := { name := "weightSmall", fn := fun _ => fun
  | [d1, d2] => { results := [.lit (.bool true)], args := [d1, d2] }
  | _ => none }
def weightSmallRow : OpenClaim := { program := "ytmcfmikpcmbmbaa", sum := "328ecd376544d71fc040c64e496c3cfc5e38958b7e9daf8e05a1e147d02204db", func := "weald/wealdlaw02.WeightSmall", spec := "weightSmall", inPlace := ["math.Float64bits", "math.Float64frombits"], unfollowed := true, recurses := true, apart := false }
def WeightSmallSaid : Prop := weightSmallRow.holds Try.pinned (OpenSpec.ofChange weightSmallSpec)

/-- ITS FALSE NEIGHBOUR: 'it returns false'. Refute it at one input. -/
def weightSmallWrong : ChangeSpec := { name := "weightSmall", fn := fun _ => fun
  | [d1, d2] => { results := [.lit (.bool false)], args := [d1, d2] }
  | _ => none }
def WeightSmallWrongFalsely : Prop := weightSmallRow.holds Try.pinned (OpenSpec.ofChange weightSmallWrong)

/- THE SECOND FORM. 'bulk': how many values and letters a reading holds, each counted each time it is reached (what is shared counts as often as it is met; a slice's spare places count too). A statement '..UptoSaid' is the law's where the arguments, and the package variables that the reading takes, are together of bulk at most 1048576: NARROWER than '..Said'. Prove '..Said' where nothing that the law and all that it calls make is longer than what came in: it says more and counts as full. Else prove '..UptoSaid'. A law counts once. -/
mutual
def uptoBulk {H : Type} : DataW H → Nat
  | .lit (.string bytes) => bytes.length + 1
  | .lit _ => 1
  | .nil => 1
  | .ptr d => uptoBulk d + 1
  | .slice elems spare => uptoBulkAll elems + uptoBulkAll spare + 1
  | .agg parts => uptoBulkAll parts + 1
  | .iface _ d => uptoBulk d + 1
  | .map entries => uptoBulkEntries entries + 1
  | .held _ => 1
def uptoBulkAll {H : Type} : List (DataW H) → Nat
  | [] => 0
  | d :: r => uptoBulk d + uptoBulkAll r
def uptoBulkEntries {H : Type} : List (Lit × DataW H) → Nat
  | [] => 0
  | x :: r => uptoBulkEntry x + uptoBulkEntries r
def uptoBulkEntry {H : Type} : Lit × DataW H → Nat
  | (.string bytes, d) => bytes.length + uptoBulk d + 1
  | (_, d) => uptoBulk d + 1
 end
def uptoSmall : (H : Type) → List (DataW H) → Bool := fun _ ds => decide (uptoBulkAll ds ≤ 1048576)
def OpenSpec.upto (s : _root_.Go.ChangeSpec) : _root_.Go.OpenSpec := { _root_.Go.OpenSpec.ofChange s with cond := some uptoSmall }

/-- 'wealdlaw02.WeightTells', WHERE WHAT IT READS IS OF BULK AT MOST 1048576: true; the input reads as it did. -/
def weightTellsUptoRow : OpenClaim := { program := "ytmcfmikpcmbmbaa", sum := "328ecd376544d71fc040c64e496c3cfc5e38958b7e9daf8e05a1e147d02204db", func := "weald/wealdlaw02.WeightTells", spec := "weightTells", inPlace := ["math.Float64bits", "math.Float64frombits"], unfollowed := true, recurses := true, apart := false, narrowed := true }
def WeightTellsUptoSaid : Prop := weightTellsUptoRow.holds Try.pinned (OpenSpec.upto weightTellsSpec)

/-- 'wealdlaw02.WeightBack', WHERE WHAT IT READS IS OF BULK AT MOST 1048576: true; the input reads as it did. -/
def weightBackUptoRow : OpenClaim := { program := "ytmcfmikpcmbmbaa", sum := "328ecd376544d71fc040c64e496c3cfc5e38958b7e9daf8e05a1e147d02204db", func := "weald/wealdlaw02.WeightBack", spec := "weightBack", inPlace := ["math.Float64bits", "math.Float64frombits"], unfollowed := true, recurses := true, apart := false, narrowed := true }
def WeightBackUptoSaid : Prop := weightBackUptoRow.holds Try.pinned (OpenSpec.upto weightBackSpec)

/-- 'wealdlaw02.WeightCompares', WHERE WHAT IT READS IS OF BULK AT MOST 1048576: true; the input reads as it did. -/
def weightComparesUptoRow : OpenClaim := { program := "ytmcfmikpcmbmbaa", sum := "328ecd376544d71fc040c64e496c3cfc5e38958b7e9daf8e05a1e147d02204db", func := "weald/wealdlaw02.WeightCompares", spec := "weightCompares", inPlace := ["math.Float64bits", "math.Float64frombits"], unfollowed := true, recurses := true, apart := false, narrowed := true }
def WeightComparesUptoSaid : Prop := weightComparesUptoRow.holds Try.pinned (OpenSpec.upto weightComparesSpec)

/-- 'wealdlaw02.WeightScales', WHERE WHAT IT READS IS OF BULK AT MOST 1048576: true; the input reads as it did. -/
def weightScalesUptoRow : OpenClaim := { program := "ytmcfmikpcmbmbaa", sum := "328ecd376544d71fc040c64e496c3cfc5e38958b7e9daf8e05a1e147d02204db", func := "weald/wealdlaw02.WeightScales", spec := "weightScales", inPlace := ["math.Float64bits", "math.Float64frombits"], unfollowed := true, recurses := true, apart := false, narrowed := true }
def WeightScalesUptoSaid : Prop := weightScalesUptoRow.holds Try.pinned (OpenSpec.upto weightScalesSpec)

/-- 'wealdlaw02.WeightOrder', WHERE WHAT IT READS IS OF BULK AT MOST 1048576: true; the input reads as it did. -/
def weightOrderUptoRow : OpenClaim := { program := "ytmcfmikpcmbmbaa", sum := "328ecd376544d71fc040c64e496c3cfc5e38958b7e9daf8e05a1e147d02204db", func := "weald/wealdlaw02.WeightOrder", spec := "weightOrder", inPlace := ["math.Float64bits", "math.Float64frombits"], unfollowed := true, recurses := true, apart := false, narrowed := true }
def WeightOrderUptoSaid : Prop := weightOrderUptoRow.holds Try.pinned (OpenSpec.upto weightOrderSpec)

/-- 'wealdlaw02.WeightTurned', WHERE WHAT IT READS IS OF BULK AT MOST 1048576: true; the input reads as it did. -/
def weightTurnedUptoRow : OpenClaim := { program := "ytmcfmikpcmbmbaa", sum := "328ecd376544d71fc040c64e496c3cfc5e38958b7e9daf8e05a1e147d02204db", func := "weald/wealdlaw02.WeightTurned", spec := "weightTurned", inPlace := ["math.Float64bits", "math.Float64frombits"], unfollowed := true, recurses := true, apart := false, narrowed := true }
def WeightTurnedUptoSaid : Prop := weightTurnedUptoRow.holds Try.pinned (OpenSpec.upto weightTurnedSpec)

/-- 'wealdlaw02.WeightRows', WHERE WHAT IT READS IS OF BULK AT MOST 1048576: true; the input reads as it did. -/
def weightRowsUptoRow : OpenClaim := { program := "ytmcfmikpcmbmbaa", sum := "328ecd376544d71fc040c64e496c3cfc5e38958b7e9daf8e05a1e147d02204db", func := "weald/wealdlaw02.WeightRows", spec := "weightRows", inPlace := ["math.Float64bits", "math.Float64frombits"], unfollowed := true, recurses := true, apart := false, narrowed := true }
def WeightRowsUptoSaid : Prop := weightRowsUptoRow.holds Try.pinned (OpenSpec.upto weightRowsSpec)

/-- 'wealdlaw02.WeightSmall', WHERE WHAT IT READS IS OF BULK AT MOST 1048576: true; the input reads as it did. -/
def weightSmallUptoRow : OpenClaim := { program := "ytmcfmikpcmbmbaa", sum := "328ecd376544d71fc040c64e496c3cfc5e38958b7e9daf8e05a1e147d02204db", func := "weald/wealdlaw02.WeightSmall", spec := "weightSmall", inPlace := ["math.Float64bits", "math.Float64frombits"], unfollowed := true, recurses := true, apart := false, narrowed := true }
def WeightSmallUptoSaid : Prop := weightSmallUptoRow.holds Try.pinned (OpenSpec.upto weightSmallSpec)

end Rows
end Go.Proofs.Ytmcfmikpcmbmbaa
