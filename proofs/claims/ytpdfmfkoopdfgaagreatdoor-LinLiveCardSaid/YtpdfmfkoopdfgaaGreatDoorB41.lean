/- GOpen. -/
import Derived.Test.YtpdfmfkoopdfgaaGreatDoorB04
import Derived.Deep.Slices
import Derived.WalkKit
import Derived.ProofKit
import Derived.OpenShut
import Derived.ChangeOld
set_option linter.unusedVariables false
set_option linter.unusedSimpArgs false
namespace Go.Proofs.YtpdfmfkoopdfgaaGreatDoor.Gr
set_option maxRecDepth 100000
open Go.RowKit Go.ChangeShapes Go.WideShapes

instance : Inhabited Arc := ⟨⟨0, 0, 0⟩⟩
theorem cellsOf3 : Tryz.prog.cellsOf 3 = 1 := by kernel_rfl
section
variable {H : Type} {enc : TypeId × Value → H} {w : World} {base : Nat} {spare : Nat → Bool} {held : Bool}
end
end Go.Proofs.YtpdfmfkoopdfgaaGreatDoor.Gr
