/- HOpen. -/
import Derived.Test.YtpdfmfkoopdfgaaGreatDoorB10
import Derived.Deep.Slices
import Derived.WalkKit
import Derived.ProofKit
import Derived.OpenShut
import Derived.ChangeOld
set_option linter.unusedVariables false
set_option linter.unusedSimpArgs false
namespace Go.Proofs.YtpdfmfkoopdfgaaGreatDoor.Hs
set_option maxRecDepth 100000
open Go.RowKit Go.ChangeShapes Go.WideShapes Aid

instance : Inhabited Cl := ⟨⟨0, 0, 0, 0, 0, 0, 0, 0, 0, false, 0, 0, [], none, 0⟩⟩
theorem cellsOf30 : Tryz.prog.cellsOf 38 = 4 := by kernel_rfl
theorem cellsOf25 : Tryz.prog.cellsOf 36 = 1 := by kernel_rfl
theorem cellsOf3 : Tryz.prog.cellsOf 3 = 1 := by kernel_rfl
/-- A call's list is no longer than its place. -/
def Cl.Fits (a : Cl) : Prop := a.list.length ≤ a.cap ∧ a.cap ≤ 9223372036854775807 ∧ (-9223372036854775808 ≤ a.k ∧ a.k ≤ 9223372036854775807) ∧ (-9223372036854775808 ≤ a.u ∧ a.u ≤ 9223372036854775807) ∧ (-9223372036854775808 ≤ a.v ∧ a.v ≤ 9223372036854775807) ∧ (0 ≤ a.x ∧ a.x < 18446744073709551616)
section
variable {H : Type} {enc : TypeId × Value → H} {w : World} {base : Nat} {spare : Nat → Bool} {held : Bool}
theorem open_ints {n : Nat} {cs : List Value} {x : DataW H × List MemPlace} (h : DataW.trod enc Tryz.prog w base spare held n 33 cs = some x) : ∃ (A : Option Addr) (c : Nat) (l : List Int), cs = [.slice A l.length c] ∧ l.length ≤ c ∧ c ≤ 9223372036854775807 ∧ Sl w A (l.map (Value.int .i64)) := by
  rcases Go.ChangeShapes.open_ints Tryz.underlying33 Tryz.underlying3 cellsOf3 h with ⟨rfl, _⟩ | ⟨a, len, cap, zs, rfl, _, hl, hm, hz, _, hc, _⟩
  · exact ⟨none, 0, [], rfl, by simp, by simp, fun h => by simp at h⟩
  · have hle : len ≤ zs.length := by rw [hz]; split <;> omega
    have hlen : (zs.take len).length = len := by rw [List.length_take]; omega
    refine ⟨some a, cap, zs.take len, by rw [hlen], by omega, by unfold maxLen at hm; omega, fun hp => ?_⟩
    rw [List.length_map, hlen] at hp
    obtain ⟨b, off, spot⟩ := a
    have hspot : spot = none := by simpa [Addr.add] using World.cell?_spot (hc 0 (by omega))
    subst hspot
    refine ⟨b, off, rfl, fun j u hj => ?_⟩
    rw [List.getElem?_map] at hj
    obtain ⟨z, hz1, rfl⟩ := Option.map_eq_some_iff.1 hj
    obtain ⟨hj2, hz2⟩ := List.getElem?_eq_some_iff.1 hz1
    have hj3 : j < len := by rw [hlen] at hj2; exact hj2
    have h9 := hc j (by omega)
    rw [addr_add] at h9
    rw [h9, ← hz2, List.getElem_take, List.getD_eq_getElem?_getD, List.getElem?_eq_getElem (by omega)]
    rfl
end
end Go.Proofs.YtpdfmfkoopdfgaaGreatDoor.Hs
