/-
  No cell of these rows narrows 'for every input' (looked for: loops, veiled, ifaces, maps, wideKeys, modest, calm, conditions, laid).
  DERIVED. THE GIVEN ROWS OF THIS SEAT. 6 by the template 'for every input the law returns true; each argument reads behind the call as it read before'; 0 by the template 'total and deterministic' (their statements: YtgaoebeanjgnaaaTotals.lean).
  GIVEN WITH THE SEED: the statements are not yours to turn. If you find one false, say at which input.
  Laid BY PROGRAM, IN A SANDBOX (cutbox-rows.mjs): the forced cells as the released guide's own fill.sh prints them over the translation 4eb5e16c988ccbc0… (all of the seat's roots in one cut). By AI agents, Wed Nov 11 2026. No macro, syntax, notation, axiom, sorry.
-/
import Derived.Test.YtgaoebeanjgnaaaChecked
import GoSem.Claim
import GoSem.ClaimJoined
import GoSem.ClaimMapViews
import Derived.JoinedTies
import Derived.KernelRfl
namespace Go.Proofs.Ytgaoebeanjgnaaa
/- THE CELL 'sum', in the pinned program and in every row, IS THE sha256 OF THE DUMP (.gsa) THAT YtgaoebeanjgnaaaProg.lean LOADS. Nothing in Lean hashes anything: it is a label: what it is worth is what the hold of that sum in a sandbox is worth. -/
noncomputable def Try.pinned : Pinned := { name := "ytgaoebeanjgnaaa", sum := "4eb5e16c988ccbc099c740e9aa203ab08d24545e2011768f68e92c491b848740", checked := Try.checked }
namespace Rows
def none {H : Type} : Left H := { results := [], args := [] }

/-- 'wealdlaw01.KeyTells': WHATEVER THE INPUT: true; the input reads as it did. -/
def keyTellsSpec : ChangeSpec := { name := "keyTells", fn := fun _ => fun
  | [d1, d2, d3] => { results := [.lit (.bool true)], args := [d1, d2, d3] }
  | _ => none }
def keyTellsRow : OpenClaim := { program := "ytgaoebeanjgnaaa", sum := "4eb5e16c988ccbc099c740e9aa203ab08d24545e2011768f68e92c491b848740", func := "weald/wealdlaw01.KeyTells", spec := "keyTells", apart := false }
def KeyTellsSaid : Prop := keyTellsRow.holds Try.pinned (OpenSpec.ofChange keyTellsSpec)

/-- ITS FALSE NEIGHBOUR: 'it returns false'. Refute it at one input. -/
def keyTellsWrong : ChangeSpec := { name := "keyTells", fn := fun _ => fun
  | [d1, d2, d3] => { results := [.lit (.bool false)], args := [d1, d2, d3] }
  | _ => none }
def KeyTellsWrongFalsely : Prop := keyTellsRow.holds Try.pinned (OpenSpec.ofChange keyTellsWrong)

/-- 'wealdlaw01.KeyBack': WHATEVER THE INPUT: true; the input reads as it did. -/
def keyBackSpec : ChangeSpec := { name := "keyBack", fn := fun _ => fun
  | [d1, d2, d3] => { results := [.lit (.bool true)], args := [d1, d2, d3] }
  | _ => none }
def keyBackRow : OpenClaim := { program := "ytgaoebeanjgnaaa", sum := "4eb5e16c988ccbc099c740e9aa203ab08d24545e2011768f68e92c491b848740", func := "weald/wealdlaw01.KeyBack", spec := "keyBack", apart := false }
def KeyBackSaid : Prop := keyBackRow.holds Try.pinned (OpenSpec.ofChange keyBackSpec)

/-- ITS FALSE NEIGHBOUR: 'it returns false'. Refute it at one input. -/
def keyBackWrong : ChangeSpec := { name := "keyBack", fn := fun _ => fun
  | [d1, d2, d3] => { results := [.lit (.bool false)], args := [d1, d2, d3] }
  | _ => none }
def KeyBackWrongFalsely : Prop := keyBackRow.holds Try.pinned (OpenSpec.ofChange keyBackWrong)

/-- 'wealdlaw01.KeyOrder': WHATEVER THE INPUT: true; the input reads as it did. -/
def keyOrderSpec : ChangeSpec := { name := "keyOrder", fn := fun _ => fun
  | [d] => { results := [.lit (.bool true)], args := [d] }
  | _ => none }
def keyOrderRow : OpenClaim := { program := "ytgaoebeanjgnaaa", sum := "4eb5e16c988ccbc099c740e9aa203ab08d24545e2011768f68e92c491b848740", func := "weald/wealdlaw01.KeyOrder", spec := "keyOrder", apart := false }
def KeyOrderSaid : Prop := keyOrderRow.holds Try.pinned (OpenSpec.ofChange keyOrderSpec)

/-- ITS FALSE NEIGHBOUR: 'it returns false'. Refute it at one input. -/
def keyOrderWrong : ChangeSpec := { name := "keyOrder", fn := fun _ => fun
  | [d] => { results := [.lit (.bool false)], args := [d] }
  | _ => none }
def KeyOrderWrongFalsely : Prop := keyOrderRow.holds Try.pinned (OpenSpec.ofChange keyOrderWrong)

/-- 'wealdlaw01.KeyApart': WHATEVER THE INPUT: true; the input reads as it did. -/
def keyApartSpec : ChangeSpec := { name := "keyApart", fn := fun _ => fun
  | [d] => { results := [.lit (.bool true)], args := [d] }
  | _ => none }
def keyApartRow : OpenClaim := { program := "ytgaoebeanjgnaaa", sum := "4eb5e16c988ccbc099c740e9aa203ab08d24545e2011768f68e92c491b848740", func := "weald/wealdlaw01.KeyApart", spec := "keyApart", apart := false }
def KeyApartSaid : Prop := keyApartRow.holds Try.pinned (OpenSpec.ofChange keyApartSpec)

/-- ITS FALSE NEIGHBOUR: 'it returns false'. Refute it at one input. -/
def keyApartWrong : ChangeSpec := { name := "keyApart", fn := fun _ => fun
  | [d] => { results := [.lit (.bool false)], args := [d] }
  | _ => none }
def KeyApartWrongFalsely : Prop := keyApartRow.holds Try.pinned (OpenSpec.ofChange keyApartWrong)

/-- 'wealdlaw01.KeyFrom': WHATEVER THE INPUT: true; the input reads as it did. -/
def keyFromSpec : ChangeSpec := { name := "keyFrom", fn := fun _ => fun
  | [d1, d2] => { results := [.lit (.bool true)], args := [d1, d2] }
  | _ => none }
def keyFromRow : OpenClaim := { program := "ytgaoebeanjgnaaa", sum := "4eb5e16c988ccbc099c740e9aa203ab08d24545e2011768f68e92c491b848740", func := "weald/wealdlaw01.KeyFrom", spec := "keyFrom", apart := false }
def KeyFromSaid : Prop := keyFromRow.holds Try.pinned (OpenSpec.ofChange keyFromSpec)

/-- ITS FALSE NEIGHBOUR: 'it returns false'. Refute it at one input. -/
def keyFromWrong : ChangeSpec := { name := "keyFrom", fn := fun _ => fun
  | [d1, d2] => { results := [.lit (.bool false)], args := [d1, d2] }
  | _ => none }
def KeyFromWrongFalsely : Prop := keyFromRow.holds Try.pinned (OpenSpec.ofChange keyFromWrong)

/-- 'wealdlaw01.KeyBits': WHATEVER THE INPUT: true; the input reads as it did. -/
def keyBitsSpec : ChangeSpec := { name := "keyBits", fn := fun _ => fun
  | [d] => { results := [.lit (.bool true)], args := [d] }
  | _ => none }
def keyBitsRow : OpenClaim := { program := "ytgaoebeanjgnaaa", sum := "4eb5e16c988ccbc099c740e9aa203ab08d24545e2011768f68e92c491b848740", func := "weald/wealdlaw01.KeyBits", spec := "keyBits", apart := false }
def KeyBitsSaid : Prop := keyBitsRow.holds Try.pinned (OpenSpec.ofChange keyBitsSpec)

/-- ITS FALSE NEIGHBOUR: 'it returns false'. Refute it at one input. -/
def keyBitsWrong : ChangeSpec := { name := "keyBits", fn := fun _ => fun
  | [d] => { results := [.lit (.bool false)], args := [d] }
  | _ => none }
def KeyBitsWrongFalsely : Prop := keyBitsRow.holds Try.pinned (OpenSpec.ofChange keyBitsWrong)

/- THE SECOND FORM. 'bulk': how many values and letters a reading holds, each counted each time it is reached (what is shared counts as often as it is met; a slice's spare places count too). A statement '..UptoSaid' is the law's where the arguments, and the package variables that the reading takes, are together of bulk at most 1048576: NARROWER than '..Said'. Prove '..Said' where nothing that the law and all that it calls make is longer than what came in: it says more and counts as full. Else prove '..UptoSaid'. A law counts once. -/
mutual
def uptoBulk {H : Type} : DataW H → Nat
  | .lit (.string bytes) => bytes.length + 1
  | .lit _ => 1
  | .nil => 1
  | .ptr d => uptoBulk d + 1
  | .slice elems spare => uptoBulkAll elems + uptoBulkAll spare + 1
  | .agg parts => uptoBulkAll parts + 1
  | .iface _ d => uptoBulk d + 1
  | .map entries => uptoBulkEntries entries + 1
  | .held _ => 1
def uptoBulkAll {H : Type} : List (DataW H) → Nat
  | [] => 0
  | d :: r => uptoBulk d + uptoBulkAll r
def uptoBulkEntries {H : Type} : List (Lit × DataW H) → Nat
  | [] => 0
  | x :: r => uptoBulkEntry x + uptoBulkEntries r
def uptoBulkEntry {H : Type} : Lit × DataW H → Nat
  | (.string bytes, d) => bytes.length + uptoBulk d + 1
  | (_, d) => uptoBulk d + 1
 end
def uptoSmall : (H : Type) → List (DataW H) → Bool := fun _ ds => decide (uptoBulkAll ds ≤ 1048576)
def OpenSpec.upto (s : _root_.Go.ChangeSpec) : _root_.Go.OpenSpec := { _root_.Go.OpenSpec.ofChange s with cond := some uptoSmall }

/-- 'wealdlaw01.KeyTells', WHERE WHAT IT READS IS OF BULK AT MOST 1048576: true; the input reads as it did. -/
def keyTellsUptoRow : OpenClaim := { program := "ytgaoebeanjgnaaa", sum := "4eb5e16c988ccbc099c740e9aa203ab08d24545e2011768f68e92c491b848740", func := "weald/wealdlaw01.KeyTells", spec := "keyTells", apart := false, narrowed := true }
def KeyTellsUptoSaid : Prop := keyTellsUptoRow.holds Try.pinned (OpenSpec.upto keyTellsSpec)

/-- 'wealdlaw01.KeyBack', WHERE WHAT IT READS IS OF BULK AT MOST 1048576: true; the input reads as it did. -/
def keyBackUptoRow : OpenClaim := { program := "ytgaoebeanjgnaaa", sum := "4eb5e16c988ccbc099c740e9aa203ab08d24545e2011768f68e92c491b848740", func := "weald/wealdlaw01.KeyBack", spec := "keyBack", apart := false, narrowed := true }
def KeyBackUptoSaid : Prop := keyBackUptoRow.holds Try.pinned (OpenSpec.upto keyBackSpec)

/-- 'wealdlaw01.KeyOrder', WHERE WHAT IT READS IS OF BULK AT MOST 1048576: true; the input reads as it did. -/
def keyOrderUptoRow : OpenClaim := { program := "ytgaoebeanjgnaaa", sum := "4eb5e16c988ccbc099c740e9aa203ab08d24545e2011768f68e92c491b848740", func := "weald/wealdlaw01.KeyOrder", spec := "keyOrder", apart := false, narrowed := true }
def KeyOrderUptoSaid : Prop := keyOrderUptoRow.holds Try.pinned (OpenSpec.upto keyOrderSpec)

/-- 'wealdlaw01.KeyApart', WHERE WHAT IT READS IS OF BULK AT MOST 1048576: true; the input reads as it did. -/
def keyApartUptoRow : OpenClaim := { program := "ytgaoebeanjgnaaa", sum := "4eb5e16c988ccbc099c740e9aa203ab08d24545e2011768f68e92c491b848740", func := "weald/wealdlaw01.KeyApart", spec := "keyApart", apart := false, narrowed := true }
def KeyApartUptoSaid : Prop := keyApartUptoRow.holds Try.pinned (OpenSpec.upto keyApartSpec)

/-- 'wealdlaw01.KeyFrom', WHERE WHAT IT READS IS OF BULK AT MOST 1048576: true; the input reads as it did. -/
def keyFromUptoRow : OpenClaim := { program := "ytgaoebeanjgnaaa", sum := "4eb5e16c988ccbc099c740e9aa203ab08d24545e2011768f68e92c491b848740", func := "weald/wealdlaw01.KeyFrom", spec := "keyFrom", apart := false, narrowed := true }
def KeyFromUptoSaid : Prop := keyFromUptoRow.holds Try.pinned (OpenSpec.upto keyFromSpec)

/-- 'wealdlaw01.KeyBits', WHERE WHAT IT READS IS OF BULK AT MOST 1048576: true; the input reads as it did. -/
def keyBitsUptoRow : OpenClaim := { program := "ytgaoebeanjgnaaa", sum := "4eb5e16c988ccbc099c740e9aa203ab08d24545e2011768f68e92c491b848740", func := "weald/wealdlaw01.KeyBits", spec := "keyBits", apart := false, narrowed := true }
def KeyBitsUptoSaid : Prop := keyBitsUptoRow.holds Try.pinned (OpenSpec.upto keyBitsSpec)

end Rows
end Go.Proofs.Ytgaoebeanjgnaaa
