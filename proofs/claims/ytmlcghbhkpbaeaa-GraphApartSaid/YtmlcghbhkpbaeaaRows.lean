/-
  No cell of these rows narrows 'for every input' (looked for: loops, veiled, ifaces, maps, wideKeys, modest, calm, conditions, laid).
  DERIVED. THE GIVEN ROWS OF THIS SEAT. 5 by the template 'for every input the law returns true; each argument reads behind the call as it read before'; 0 by the template 'total and deterministic' (their statements: YtmlcghbhkpbaeaaTotals.lean).
  GIVEN WITH THE SEED: the statements are not yours to turn. If you find one false, say at which input.
  Laid BY PROGRAM, IN A SANDBOX (cutbox-rows.mjs): the forced cells as the released guide's own fill.sh prints them over the translation 966e520637d08796… (all of the seat's roots in one cut). By AI agents, Wed Nov 11 2026. No macro, syntax, notation, axiom, sorry.
-/
import Derived.Test.YtmlcghbhkpbaeaaChecked
import GoSem.Claim
import GoSem.ClaimJoined
import GoSem.ClaimMapViews
import Derived.JoinedTies
import Derived.KernelRfl
namespace Go.Proofs.Ytmlcghbhkpbaeaa
/- THE CELL 'sum', in the pinned program and in every row, IS THE sha256 OF THE DUMP (.gsa) THAT YtmlcghbhkpbaeaaProg.lean LOADS. Nothing in Lean hashes anything: it is a label: what it is worth is what the hold of that sum in a sandbox is worth. -/
noncomputable def Try.pinned : Pinned := { name := "ytmlcghbhkpbaeaa", sum := "966e520637d0879656416fc21730ab501c8050d8e25b8491b4c03241d242d6a3", checked := Try.checked }
namespace Rows
def none {H : Type} : Left H := { results := [], args := [] }

/-- 'wealdlaw19.GraphStays': WHATEVER THE INPUT: true; the input reads as it did. -/
def graphStaysSpec : ChangeSpec := { name := "graphStays", fn := fun _ => fun
  | [d1, d2] => { results := [.lit (.bool true)], args := [d1, d2] }
  | _ => none }
def graphStaysRow : OpenClaim := { program := "ytmlcghbhkpbaeaa", sum := "966e520637d0879656416fc21730ab501c8050d8e25b8491b4c03241d242d6a3", func := "weald/wealdlaw19.GraphStays", spec := "graphStays", inPlace := ["slices.overlaps[weald/api.Arc]"], unfollowed := true, recurses := true, apart := false }
def GraphStaysSaid : Prop := graphStaysRow.holds Try.pinned (OpenSpec.ofChange graphStaysSpec)

/-- ITS FALSE NEIGHBOUR: 'it returns false'. Refute it at one input. -/
def graphStaysWrong : ChangeSpec := { name := "graphStays", fn := fun _ => fun
  | [d1, d2] => { results := [.lit (.bool false)], args := [d1, d2] }
  | _ => none }
def GraphStaysWrongFalsely : Prop := graphStaysRow.holds Try.pinned (OpenSpec.ofChange graphStaysWrong)

/-- 'wealdlaw19.GraphEnds': WHATEVER THE INPUT: true; the input reads as it did. -/
def graphEndsSpec : ChangeSpec := { name := "graphEnds", fn := fun _ => fun
  | [d] => { results := [.lit (.bool true)], args := [d] }
  | _ => none }
def graphEndsRow : OpenClaim := { program := "ytmlcghbhkpbaeaa", sum := "966e520637d0879656416fc21730ab501c8050d8e25b8491b4c03241d242d6a3", func := "weald/wealdlaw19.GraphEnds", spec := "graphEnds", inPlace := ["slices.overlaps[weald/api.Arc]"], unfollowed := true, recurses := true, apart := false }
def GraphEndsSaid : Prop := graphEndsRow.holds Try.pinned (OpenSpec.ofChange graphEndsSpec)

/-- ITS FALSE NEIGHBOUR: 'it returns false'. Refute it at one input. -/
def graphEndsWrong : ChangeSpec := { name := "graphEnds", fn := fun _ => fun
  | [d] => { results := [.lit (.bool false)], args := [d] }
  | _ => none }
def GraphEndsWrongFalsely : Prop := graphEndsRow.holds Try.pinned (OpenSpec.ofChange graphEndsWrong)

/-- 'wealdlaw19.GraphApart': WHATEVER THE INPUT: true; the input reads as it did. -/
def graphApartSpec : ChangeSpec := { name := "graphApart", fn := fun _ => fun
  | [d1, d2, d3] => { results := [.lit (.bool true)], args := [d1, d2, d3] }
  | _ => none }
def graphApartRow : OpenClaim := { program := "ytmlcghbhkpbaeaa", sum := "966e520637d0879656416fc21730ab501c8050d8e25b8491b4c03241d242d6a3", func := "weald/wealdlaw19.GraphApart", spec := "graphApart", inPlace := ["slices.overlaps[weald/api.Arc]"], unfollowed := true, recurses := true, apart := false }
def GraphApartSaid : Prop := graphApartRow.holds Try.pinned (OpenSpec.ofChange graphApartSpec)

/-- ITS FALSE NEIGHBOUR: 'it returns false'. Refute it at one input. -/
def graphApartWrong : ChangeSpec := { name := "graphApart", fn := fun _ => fun
  | [d1, d2, d3] => { results := [.lit (.bool false)], args := [d1, d2, d3] }
  | _ => none }
def GraphApartWrongFalsely : Prop := graphApartRow.holds Try.pinned (OpenSpec.ofChange graphApartWrong)

/-- 'wealdlaw19.GraphCounts': WHATEVER THE INPUT: true; the input reads as it did. -/
def graphCountsSpec : ChangeSpec := { name := "graphCounts", fn := fun _ => fun
  | [d1, d2] => { results := [.lit (.bool true)], args := [d1, d2] }
  | _ => none }
def graphCountsRow : OpenClaim := { program := "ytmlcghbhkpbaeaa", sum := "966e520637d0879656416fc21730ab501c8050d8e25b8491b4c03241d242d6a3", func := "weald/wealdlaw19.GraphCounts", spec := "graphCounts", inPlace := ["slices.overlaps[weald/api.Arc]"], unfollowed := true, recurses := true, apart := false }
def GraphCountsSaid : Prop := graphCountsRow.holds Try.pinned (OpenSpec.ofChange graphCountsSpec)

/-- ITS FALSE NEIGHBOUR: 'it returns false'. Refute it at one input. -/
def graphCountsWrong : ChangeSpec := { name := "graphCounts", fn := fun _ => fun
  | [d1, d2] => { results := [.lit (.bool false)], args := [d1, d2] }
  | _ => none }
def GraphCountsWrongFalsely : Prop := graphCountsRow.holds Try.pinned (OpenSpec.ofChange graphCountsWrong)

/-- 'wealdlaw19.GraphOwn': WHATEVER THE INPUT: true; the input reads as it did. -/
def graphOwnSpec : ChangeSpec := { name := "graphOwn", fn := fun _ => fun
  | [d1, d2, d3] => { results := [.lit (.bool true)], args := [d1, d2, d3] }
  | _ => none }
def graphOwnRow : OpenClaim := { program := "ytmlcghbhkpbaeaa", sum := "966e520637d0879656416fc21730ab501c8050d8e25b8491b4c03241d242d6a3", func := "weald/wealdlaw19.GraphOwn", spec := "graphOwn", inPlace := ["slices.overlaps[weald/api.Arc]"], unfollowed := true, recurses := true, apart := false }
def GraphOwnSaid : Prop := graphOwnRow.holds Try.pinned (OpenSpec.ofChange graphOwnSpec)

/-- ITS FALSE NEIGHBOUR: 'it returns false'. Refute it at one input. -/
def graphOwnWrong : ChangeSpec := { name := "graphOwn", fn := fun _ => fun
  | [d1, d2, d3] => { results := [.lit (.bool false)], args := [d1, d2, d3] }
  | _ => none }
def GraphOwnWrongFalsely : Prop := graphOwnRow.holds Try.pinned (OpenSpec.ofChange graphOwnWrong)

/- THE SECOND FORM. 'bulk': how many values and letters a reading holds, each counted each time it is reached (what is shared counts as often as it is met; a slice's spare places count too). A statement '..UptoSaid' is the law's where the arguments, and the package variables that the reading takes, are together of bulk at most 1048576: NARROWER than '..Said'. Prove '..Said' where nothing that the law and all that it calls make is longer than what came in: it says more and counts as full. Else prove '..UptoSaid'. A law counts once. -/
mutual
def uptoBulk {H : Type} : DataW H → Nat
  | .lit (.string bytes) => bytes.length + 1
  | .lit _ => 1
  | .nil => 1
  | .ptr d => uptoBulk d + 1
  | .slice elems spare => uptoBulkAll elems + uptoBulkAll spare + 1
  | .agg parts => uptoBulkAll parts + 1
  | .iface _ d => uptoBulk d + 1
  | .map entries => uptoBulkEntries entries + 1
  | .held _ => 1
def uptoBulkAll {H : Type} : List (DataW H) → Nat
  | [] => 0
  | d :: r => uptoBulk d + uptoBulkAll r
def uptoBulkEntries {H : Type} : List (Lit × DataW H) → Nat
  | [] => 0
  | x :: r => uptoBulkEntry x + uptoBulkEntries r
def uptoBulkEntry {H : Type} : Lit × DataW H → Nat
  | (.string bytes, d) => bytes.length + uptoBulk d + 1
  | (_, d) => uptoBulk d + 1
 end
def uptoSmall : (H : Type) → List (DataW H) → Bool := fun _ ds => decide (uptoBulkAll ds ≤ 1048576)
def OpenSpec.upto (s : _root_.Go.ChangeSpec) : _root_.Go.OpenSpec := { _root_.Go.OpenSpec.ofChange s with cond := some uptoSmall }

/-- 'wealdlaw19.GraphStays', WHERE WHAT IT READS IS OF BULK AT MOST 1048576: true; the input reads as it did. -/
def graphStaysUptoRow : OpenClaim := { program := "ytmlcghbhkpbaeaa", sum := "966e520637d0879656416fc21730ab501c8050d8e25b8491b4c03241d242d6a3", func := "weald/wealdlaw19.GraphStays", spec := "graphStays", inPlace := ["slices.overlaps[weald/api.Arc]"], unfollowed := true, recurses := true, apart := false, narrowed := true }
def GraphStaysUptoSaid : Prop := graphStaysUptoRow.holds Try.pinned (OpenSpec.upto graphStaysSpec)

/-- 'wealdlaw19.GraphEnds', WHERE WHAT IT READS IS OF BULK AT MOST 1048576: true; the input reads as it did. -/
def graphEndsUptoRow : OpenClaim := { program := "ytmlcghbhkpbaeaa", sum := "966e520637d0879656416fc21730ab501c8050d8e25b8491b4c03241d242d6a3", func := "weald/wealdlaw19.GraphEnds", spec := "graphEnds", inPlace := ["slices.overlaps[weald/api.Arc]"], unfollowed := true, recurses := true, apart := false, narrowed := true }
def GraphEndsUptoSaid : Prop := graphEndsUptoRow.holds Try.pinned (OpenSpec.upto graphEndsSpec)

/-- 'wealdlaw19.GraphApart', WHERE WHAT IT READS IS OF BULK AT MOST 1048576: true; the input reads as it did. -/
def graphApartUptoRow : OpenClaim := { program := "ytmlcghbhkpbaeaa", sum := "966e520637d0879656416fc21730ab501c8050d8e25b8491b4c03241d242d6a3", func := "weald/wealdlaw19.GraphApart", spec := "graphApart", inPlace := ["slices.overlaps[weald/api.Arc]"], unfollowed := true, recurses := true, apart := false, narrowed := true }
def GraphApartUptoSaid : Prop := graphApartUptoRow.holds Try.pinned (OpenSpec.upto graphApartSpec)

/-- 'wealdlaw19.GraphCounts', WHERE WHAT IT READS IS OF BULK AT MOST 1048576: true; the input reads as it did. -/
def graphCountsUptoRow : OpenClaim := { program := "ytmlcghbhkpbaeaa", sum := "966e520637d0879656416fc21730ab501c8050d8e25b8491b4c03241d242d6a3", func := "weald/wealdlaw19.GraphCounts", spec := "graphCounts", inPlace := ["slices.overlaps[weald/api.Arc]"], unfollowed := true, recurses := true, apart := false, narrowed := true }
def GraphCountsUptoSaid : Prop := graphCountsUptoRow.holds Try.pinned (OpenSpec.upto graphCountsSpec)

/-- 'wealdlaw19.GraphOwn', WHERE WHAT IT READS IS OF BULK AT MOST 1048576: true; the input reads as it did. -/
def graphOwnUptoRow : OpenClaim := { program := "ytmlcghbhkpbaeaa", sum := "966e520637d0879656416fc21730ab501c8050d8e25b8491b4c03241d242d6a3", func := "weald/wealdlaw19.GraphOwn", spec := "graphOwn", inPlace := ["slices.overlaps[weald/api.Arc]"], unfollowed := true, recurses := true, apart := false, narrowed := true }
def GraphOwnUptoSaid : Prop := graphOwnUptoRow.holds Try.pinned (OpenSpec.upto graphOwnSpec)

end Rows
end Go.Proofs.Ytmlcghbhkpbaeaa
