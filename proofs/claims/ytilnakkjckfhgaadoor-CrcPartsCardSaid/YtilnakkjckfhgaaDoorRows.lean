/-
  NARROWER THAN 'FOR EVERY INPUT', by the rows' own cells (each row's printed sentence says how): CrcTells: laid · CrcGoes: laid · CrcBurst: laid · CrcTurns: laid · CrcParts: laid · CrcSwap: laid · CrcFollows: laid.
  DERIVED. THE GIVEN ROWS OF THIS SEAT. 7 by the template 'for every input the law returns true; each argument reads behind the call as it read before'; 0 by the template 'total and deterministic' (their statements: YtilnakkjckfhgaaDoorTotals.lean).
  GIVEN WITH THE SEED: the statements are not yours to turn. If you find one false, say at which input.
  Laid BY PROGRAM, IN A SANDBOX (cutbox-rows.mjs): the forced cells as the released guide's own fill.sh prints them over the translation a722422b8ef4f0e9… (all of the seat's roots in one cut). By AI agents, Wed Nov 11 2026. No macro, syntax, notation, axiom, sorry.
-/
import Derived.Test.YtilnakkjckfhgaaDoorChecked
import GoSem.Claim
import GoSem.ClaimJoined
import GoSem.ClaimMapViews
import Derived.JoinedTies
import Derived.KernelRfl
namespace Go.Proofs.YtilnakkjckfhgaaDoor
/- THE CELL 'sum', in the pinned program and in every row, IS THE sha256 OF THE DUMP (.gsa) THAT YtilnakkjckfhgaaDoorProg.lean LOADS. Nothing in Lean hashes anything: it is a label: what it is worth is what the hold of that sum in a sandbox is worth. -/
noncomputable def Tryd.pinned : Pinned := { name := "ytilnakkjckfhgaadoor", sum := "a722422b8ef4f0e96020359f896d8b47f7f3ed6589fb5f32612d207141d13903", checked := Tryd.checked }
namespace Rows
def none {H : Type} : Left H := { results := [], args := [] }

/- WHAT THE LISTED PACKAGE-LEVEL VARIABLES READ AS WHEN THE CALL BEGINS. Each datum BY PROGRAM (the guide's laid-datum.mjs) off the statement by which the dump's own 'gosem.cut.vars' lays the variable. In a bare row this is a premise. The card (YtilnakkjckfhgaaDoorCards.lean) ties it to the program's text. -/
def laid_weald_crc_halves {H : Type} : DataW H := .agg [.lit (.int .u32 0), .lit (.int .u32 498536548), .lit (.int .u32 997073096), .lit (.int .u32 651767980), .lit (.int .u32 1994146192), .lit (.int .u32 1802195444), .lit (.int .u32 1303535960), .lit (.int .u32 1342533948), .lit (.int .u32 3988292384), .lit (.int .u32 4027552580), .lit (.int .u32 3604390888), .lit (.int .u32 3412177804), .lit (.int .u32 2607071920), .lit (.int .u32 2262029012), .lit (.int .u32 2685067896), .lit (.int .u32 3183342108)]

/-- 'wealdlaw03.CrcTells': WHATEVER THE INPUT: true; the input reads as it did. -/
def crcTellsSpec : ChangeSpec := { name := "crcTells", fn := fun _ => fun
  | [d1, d2] => { results := [.lit (.bool true)], args := [d1, d2] }
  | _ => none }
def crcTellsRow : OpenClaim := { program := "ytilnakkjckfhgaadoor", sum := "a722422b8ef4f0e96020359f896d8b47f7f3ed6589fb5f32612d207141d13903", func := "weald/wealdlaw03.CrcTells", spec := "crcTells", named := ["weald/crc.halves"], apart := false, laid := [("weald/crc.halves", laid_weald_crc_halves)] }
def CrcTellsSaid : Prop := crcTellsRow.holds Tryd.pinned (OpenSpec.ofChange crcTellsSpec)

/-- ITS FALSE NEIGHBOUR: 'it returns false'. Refute it at one input. -/
def crcTellsWrong : ChangeSpec := { name := "crcTells", fn := fun _ => fun
  | [d1, d2] => { results := [.lit (.bool false)], args := [d1, d2] }
  | _ => none }
def CrcTellsWrongFalsely : Prop := crcTellsRow.holds Tryd.pinned (OpenSpec.ofChange crcTellsWrong)

/-- 'wealdlaw03.CrcGoes': WHATEVER THE INPUT: true; the input reads as it did. -/
def crcGoesSpec : ChangeSpec := { name := "crcGoes", fn := fun _ => fun
  | [d1, d2] => { results := [.lit (.bool true)], args := [d1, d2] }
  | _ => none }
def crcGoesRow : OpenClaim := { program := "ytilnakkjckfhgaadoor", sum := "a722422b8ef4f0e96020359f896d8b47f7f3ed6589fb5f32612d207141d13903", func := "weald/wealdlaw03.CrcGoes", spec := "crcGoes", named := ["weald/crc.halves"], apart := false, laid := [("weald/crc.halves", laid_weald_crc_halves)] }
def CrcGoesSaid : Prop := crcGoesRow.holds Tryd.pinned (OpenSpec.ofChange crcGoesSpec)

/-- ITS FALSE NEIGHBOUR: 'it returns false'. Refute it at one input. -/
def crcGoesWrong : ChangeSpec := { name := "crcGoes", fn := fun _ => fun
  | [d1, d2] => { results := [.lit (.bool false)], args := [d1, d2] }
  | _ => none }
def CrcGoesWrongFalsely : Prop := crcGoesRow.holds Tryd.pinned (OpenSpec.ofChange crcGoesWrong)

/-- 'wealdlaw03.CrcBurst': WHATEVER THE INPUT: true; the input reads as it did. -/
def crcBurstSpec : ChangeSpec := { name := "crcBurst", fn := fun _ => fun
  | [d1, d2, d3] => { results := [.lit (.bool true)], args := [d1, d2, d3] }
  | _ => none }
def crcBurstRow : OpenClaim := { program := "ytilnakkjckfhgaadoor", sum := "a722422b8ef4f0e96020359f896d8b47f7f3ed6589fb5f32612d207141d13903", func := "weald/wealdlaw03.CrcBurst", spec := "crcBurst", named := ["weald/crc.halves"], apart := false, laid := [("weald/crc.halves", laid_weald_crc_halves)] }
def CrcBurstSaid : Prop := crcBurstRow.holds Tryd.pinned (OpenSpec.ofChange crcBurstSpec)

/-- ITS FALSE NEIGHBOUR: 'it returns false'. Refute it at one input. -/
def crcBurstWrong : ChangeSpec := { name := "crcBurst", fn := fun _ => fun
  | [d1, d2, d3] => { results := [.lit (.bool false)], args := [d1, d2, d3] }
  | _ => none }
def CrcBurstWrongFalsely : Prop := crcBurstRow.holds Tryd.pinned (OpenSpec.ofChange crcBurstWrong)

/-- 'wealdlaw03.CrcTurns': WHATEVER THE INPUT: true; the input reads as it did. -/
def crcTurnsSpec : ChangeSpec := { name := "crcTurns", fn := fun _ => fun
  | [d1, d2, d3] => { results := [.lit (.bool true)], args := [d1, d2, d3] }
  | _ => none }
def crcTurnsRow : OpenClaim := { program := "ytilnakkjckfhgaadoor", sum := "a722422b8ef4f0e96020359f896d8b47f7f3ed6589fb5f32612d207141d13903", func := "weald/wealdlaw03.CrcTurns", spec := "crcTurns", named := ["weald/crc.halves"], apart := false, laid := [("weald/crc.halves", laid_weald_crc_halves)] }
def CrcTurnsSaid : Prop := crcTurnsRow.holds Tryd.pinned (OpenSpec.ofChange crcTurnsSpec)

/-- ITS FALSE NEIGHBOUR: 'it returns false'. Refute it at one input. -/
def crcTurnsWrong : ChangeSpec := { name := "crcTurns", fn := fun _ => fun
  | [d1, d2, d3] => { results := [.lit (.bool false)], args := [d1, d2, d3] }
  | _ => none }
def CrcTurnsWrongFalsely : Prop := crcTurnsRow.holds Tryd.pinned (OpenSpec.ofChange crcTurnsWrong)

/-- 'wealdlaw03.CrcParts': WHATEVER THE INPUT: true; the input reads as it did. -/
def crcPartsSpec : ChangeSpec := { name := "crcParts", fn := fun _ => fun
  | [d1, d2, d3] => { results := [.lit (.bool true)], args := [d1, d2, d3] }
  | _ => none }
def crcPartsRow : OpenClaim := { program := "ytilnakkjckfhgaadoor", sum := "a722422b8ef4f0e96020359f896d8b47f7f3ed6589fb5f32612d207141d13903", func := "weald/wealdlaw03.CrcParts", spec := "crcParts", named := ["weald/crc.halves"], apart := false, laid := [("weald/crc.halves", laid_weald_crc_halves)] }
def CrcPartsSaid : Prop := crcPartsRow.holds Tryd.pinned (OpenSpec.ofChange crcPartsSpec)

/-- ITS FALSE NEIGHBOUR: 'it returns false'. Refute it at one input. -/
def crcPartsWrong : ChangeSpec := { name := "crcParts", fn := fun _ => fun
  | [d1, d2, d3] => { results := [.lit (.bool false)], args := [d1, d2, d3] }
  | _ => none }
def CrcPartsWrongFalsely : Prop := crcPartsRow.holds Tryd.pinned (OpenSpec.ofChange crcPartsWrong)

/-- 'wealdlaw03.CrcSwap': WHATEVER THE INPUT: true; the input reads as it did. -/
def crcSwapSpec : ChangeSpec := { name := "crcSwap", fn := fun _ => fun
  | [d1, d2] => { results := [.lit (.bool true)], args := [d1, d2] }
  | _ => none }
def crcSwapRow : OpenClaim := { program := "ytilnakkjckfhgaadoor", sum := "a722422b8ef4f0e96020359f896d8b47f7f3ed6589fb5f32612d207141d13903", func := "weald/wealdlaw03.CrcSwap", spec := "crcSwap", named := ["weald/crc.halves"], apart := false, laid := [("weald/crc.halves", laid_weald_crc_halves)] }
def CrcSwapSaid : Prop := crcSwapRow.holds Tryd.pinned (OpenSpec.ofChange crcSwapSpec)

/-- ITS FALSE NEIGHBOUR: 'it returns false'. Refute it at one input. -/
def crcSwapWrong : ChangeSpec := { name := "crcSwap", fn := fun _ => fun
  | [d1, d2] => { results := [.lit (.bool false)], args := [d1, d2] }
  | _ => none }
def CrcSwapWrongFalsely : Prop := crcSwapRow.holds Tryd.pinned (OpenSpec.ofChange crcSwapWrong)

/-- 'wealdlaw03.CrcFollows': WHATEVER THE INPUT: true; the input reads as it did. -/
def crcFollowsSpec : ChangeSpec := { name := "crcFollows", fn := fun _ => fun
  | [d1, d2, d3] => { results := [.lit (.bool true)], args := [d1, d2, d3] }
  | _ => none }
def crcFollowsRow : OpenClaim := { program := "ytilnakkjckfhgaadoor", sum := "a722422b8ef4f0e96020359f896d8b47f7f3ed6589fb5f32612d207141d13903", func := "weald/wealdlaw03.CrcFollows", spec := "crcFollows", named := ["weald/crc.halves"], apart := false, laid := [("weald/crc.halves", laid_weald_crc_halves)] }
def CrcFollowsSaid : Prop := crcFollowsRow.holds Tryd.pinned (OpenSpec.ofChange crcFollowsSpec)

/-- ITS FALSE NEIGHBOUR: 'it returns false'. Refute it at one input. -/
def crcFollowsWrong : ChangeSpec := { name := "crcFollows", fn := fun _ => fun
  | [d1, d2, d3] => { results := [.lit (.bool false)], args := [d1, d2, d3] }
  | _ => none }
def CrcFollowsWrongFalsely : Prop := crcFollowsRow.holds Tryd.pinned (OpenSpec.ofChange crcFollowsWrong)

/- THE SECOND FORM. 'bulk': how many values and letters a reading holds, each counted each time it is reached (what is shared counts as often as it is met; a slice's spare places count too). A statement '..UptoSaid' is the law's where the arguments, and the package variables that the reading takes, are together of bulk at most 1048576: NARROWER than '..Said'. Prove '..Said' where nothing that the law and all that it calls make is longer than what came in: it says more and counts as full. Else prove '..UptoSaid'. A law counts once. -/
mutual
def uptoBulk {H : Type} : DataW H → Nat
  | .lit (.string bytes) => bytes.length + 1
  | .lit _ => 1
  | .nil => 1
  | .ptr d => uptoBulk d + 1
  | .slice elems spare => uptoBulkAll elems + uptoBulkAll spare + 1
  | .agg parts => uptoBulkAll parts + 1
  | .iface _ d => uptoBulk d + 1
  | .map entries => uptoBulkEntries entries + 1
  | .held _ => 1
def uptoBulkAll {H : Type} : List (DataW H) → Nat
  | [] => 0
  | d :: r => uptoBulk d + uptoBulkAll r
def uptoBulkEntries {H : Type} : List (Lit × DataW H) → Nat
  | [] => 0
  | x :: r => uptoBulkEntry x + uptoBulkEntries r
def uptoBulkEntry {H : Type} : Lit × DataW H → Nat
  | (.string bytes, d) => bytes.length + uptoBulk d + 1
  | (_, d) => uptoBulk d + 1
 end
def uptoSmall : (H : Type) → List (DataW H) → Bool := fun _ ds => decide (uptoBulkAll ds ≤ 1048576)
def OpenSpec.upto (s : _root_.Go.ChangeSpec) : _root_.Go.OpenSpec := { _root_.Go.OpenSpec.ofChange s with cond := some uptoSmall }

/-- 'wealdlaw03.CrcTells', WHERE WHAT IT READS IS OF BULK AT MOST 1048576: true; the input reads as it did. -/
def crcTellsUptoRow : OpenClaim := { program := "ytilnakkjckfhgaadoor", sum := "a722422b8ef4f0e96020359f896d8b47f7f3ed6589fb5f32612d207141d13903", func := "weald/wealdlaw03.CrcTells", spec := "crcTells", named := ["weald/crc.halves"], apart := false, laid := [("weald/crc.halves", laid_weald_crc_halves)], narrowed := true }
def CrcTellsUptoSaid : Prop := crcTellsUptoRow.holds Tryd.pinned (OpenSpec.upto crcTellsSpec)

/-- 'wealdlaw03.CrcGoes', WHERE WHAT IT READS IS OF BULK AT MOST 1048576: true; the input reads as it did. -/
def crcGoesUptoRow : OpenClaim := { program := "ytilnakkjckfhgaadoor", sum := "a722422b8ef4f0e96020359f896d8b47f7f3ed6589fb5f32612d207141d13903", func := "weald/wealdlaw03.CrcGoes", spec := "crcGoes", named := ["weald/crc.halves"], apart := false, laid := [("weald/crc.halves", laid_weald_crc_halves)], narrowed := true }
def CrcGoesUptoSaid : Prop := crcGoesUptoRow.holds Tryd.pinned (OpenSpec.upto crcGoesSpec)

/-- 'wealdlaw03.CrcBurst', WHERE WHAT IT READS IS OF BULK AT MOST 1048576: true; the input reads as it did. -/
def crcBurstUptoRow : OpenClaim := { program := "ytilnakkjckfhgaadoor", sum := "a722422b8ef4f0e96020359f896d8b47f7f3ed6589fb5f32612d207141d13903", func := "weald/wealdlaw03.CrcBurst", spec := "crcBurst", named := ["weald/crc.halves"], apart := false, laid := [("weald/crc.halves", laid_weald_crc_halves)], narrowed := true }
def CrcBurstUptoSaid : Prop := crcBurstUptoRow.holds Tryd.pinned (OpenSpec.upto crcBurstSpec)

/-- 'wealdlaw03.CrcTurns', WHERE WHAT IT READS IS OF BULK AT MOST 1048576: true; the input reads as it did. -/
def crcTurnsUptoRow : OpenClaim := { program := "ytilnakkjckfhgaadoor", sum := "a722422b8ef4f0e96020359f896d8b47f7f3ed6589fb5f32612d207141d13903", func := "weald/wealdlaw03.CrcTurns", spec := "crcTurns", named := ["weald/crc.halves"], apart := false, laid := [("weald/crc.halves", laid_weald_crc_halves)], narrowed := true }
def CrcTurnsUptoSaid : Prop := crcTurnsUptoRow.holds Tryd.pinned (OpenSpec.upto crcTurnsSpec)

/-- 'wealdlaw03.CrcParts', WHERE WHAT IT READS IS OF BULK AT MOST 1048576: true; the input reads as it did. -/
def crcPartsUptoRow : OpenClaim := { program := "ytilnakkjckfhgaadoor", sum := "a722422b8ef4f0e96020359f896d8b47f7f3ed6589fb5f32612d207141d13903", func := "weald/wealdlaw03.CrcParts", spec := "crcParts", named := ["weald/crc.halves"], apart := false, laid := [("weald/crc.halves", laid_weald_crc_halves)], narrowed := true }
def CrcPartsUptoSaid : Prop := crcPartsUptoRow.holds Tryd.pinned (OpenSpec.upto crcPartsSpec)

/-- 'wealdlaw03.CrcSwap', WHERE WHAT IT READS IS OF BULK AT MOST 1048576: true; the input reads as it did. -/
def crcSwapUptoRow : OpenClaim := { program := "ytilnakkjckfhgaadoor", sum := "a722422b8ef4f0e96020359f896d8b47f7f3ed6589fb5f32612d207141d13903", func := "weald/wealdlaw03.CrcSwap", spec := "crcSwap", named := ["weald/crc.halves"], apart := false, laid := [("weald/crc.halves", laid_weald_crc_halves)], narrowed := true }
def CrcSwapUptoSaid : Prop := crcSwapUptoRow.holds Tryd.pinned (OpenSpec.upto crcSwapSpec)

/-- 'wealdlaw03.CrcFollows', WHERE WHAT IT READS IS OF BULK AT MOST 1048576: true; the input reads as it did. -/
def crcFollowsUptoRow : OpenClaim := { program := "ytilnakkjckfhgaadoor", sum := "a722422b8ef4f0e96020359f896d8b47f7f3ed6589fb5f32612d207141d13903", func := "weald/wealdlaw03.CrcFollows", spec := "crcFollows", named := ["weald/crc.halves"], apart := false, laid := [("weald/crc.halves", laid_weald_crc_halves)], narrowed := true }
def CrcFollowsUptoSaid : Prop := crcFollowsUptoRow.holds Tryd.pinned (OpenSpec.upto crcFollowsSpec)

end Rows
end Go.Proofs.YtilnakkjckfhgaaDoor
