/- GOpen. -/
import Derived.Test.YtpdfmfkoopdfgaaGreatDoorB04
import Derived.Deep.Slices
import Derived.WalkKit
import Derived.ProofKit
import Derived.OpenShut
import Derived.ChangeOld
set_option linter.unusedVariables false
namespace Go.Proofs.YtpdfmfkoopdfgaaGreatDoor.Gr
set_option maxRecDepth 100000
open Go.RowKit Go.ChangeShapes Go.WideShapes

instance : Inhabited Arc := ⟨⟨0, 0, 0⟩⟩
theorem cellsOf41 : Tryz.prog.cellsOf 60 = 3 := by kernel_rfl
theorem cellsOf3 : Tryz.prog.cellsOf 3 = 1 := by kernel_rfl
theorem cellsOf23 : Tryz.prog.cellsOf 36 = 1 := by kernel_rfl
section
variable {H : Type} {enc : TypeId × Value → H} {w : World} {base : Nat} {spare : Nat → Bool} {held : Bool}
/-- One row's three cells. -/
theorem open_arc {n : Nat} {cs : List Value} {x : DataW H × List MemPlace} (h : DataW.trod enc Tryz.prog w base spare held n 60 cs = some x) : ∃ a : Arc, a.Fine ∧ cs = [.int .i64 a.u, .int .i64 a.v, .int .u64 a.w] := by
  obtain ⟨xs, k, rfl, _, hlen, hxl, hf⟩ := DataW.trod_struct Tryz.underlying60 h
  rw [cellsOf41] at hlen
  match cs, hlen, xs, hxl with
  | [c0, c1, c2], _, [y0, y1, y2], _ =>
    have g0 := hf 0 _ rfl
    have g1 := hf 1 _ rfl
    have g2 := hf 2 _ rfl
    simp [cellsOf3, cellsOf23] at g0 g1 g2
    obtain ⟨u, e0, _, w0⟩ := DataW.trod_int Tryz.underlying3 g0
    obtain ⟨v, e1, _, w1⟩ := DataW.trod_int Tryz.underlying3 g1
    obtain ⟨x, e2, _, w2⟩ := DataW.trod_int Tryz.underlying36 g2
    obtain rfl : c0 = .int .i64 u := by simpa using e0
    obtain rfl : c1 = .int .i64 v := by simpa using e1
    obtain rfl : c2 = .int .u64 x := by simpa using e2
    have b0 := bounds_i64 w0
    have b1 := bounds_i64 w1
    have b2 := bounds_u64 w2
    exact ⟨⟨u, v, x⟩, ⟨by simp only; omega, by simp only; omega, by simp only; omega, by simp only; omega, by simp only; omega, by simp only; omega⟩, rfl⟩
theorem open_arcs {fuel : Nat} {cs : List Value} {x : DataW H × List MemPlace} (h : DataW.trod enc Tryz.prog w base spare held fuel 22 cs = some x) : ∃ (A : Option Addr) (c : Nat) (l : List Arc), cs = [.slice A l.length c] ∧ Arcs w A l := by
  rcases Go.Deep.open_slice Tryz.underlying22 h with ⟨rfl, _⟩ | ⟨a, len, cap, m, n, D, Pl, rfl, hb, hl, hm, hmm, _, hx⟩
  · exact ⟨none, 0, [], rfl, by simp, by simp, fun h => by simp at h⟩
  · have hlm : len ≤ m := by rw [hmm]; split <;> omega
    have each : ∀ i, i < len → ∃ r : Arc, r.Fine ∧ w.cell? (a.add (i * 3)) = some (.int .i64 r.u) ∧ w.cell? (a.add (i * 3 + 1)) = some (.int .i64 r.v) ∧ w.cell? (a.add (i * 3 + 2)) = some (.int .u64 r.w) := by
      intro i hi
      obtain ⟨cs', h1, h2⟩ := hx i (by omega)
      rw [cellsOf41] at h1
      obtain ⟨r, hr, rfl⟩ := open_arc h2
      obtain ⟨_, _, hcell⟩ := World.cells?_some h1
      have e0 := hcell 0 (by decide)
      have e1 := hcell 1 (by decide)
      have e2 := hcell 2 (by decide)
      rw [Go.Deep.add_add] at e0 e1 e2
      exact ⟨r, hr, by simpa using e0, by simpa using e1, by simpa using e2⟩
    obtain ⟨q, hq⟩ := Go.Deep.choose_lt each
    have hlen : ((List.range len).map q).length = len := by simp
    have hget : ∀ i r, ((List.range len).map q)[i]? = some r → i < len ∧ r = q i := fun i r hr => by
      have hi : i < len := by have := (List.getElem?_eq_some_iff.1 hr).1; rw [hlen] at this; exact this
      rw [List.getElem?_map, List.getElem?_range hi] at hr
      exact ⟨hi, (Option.some.inj hr).symm⟩
    refine ⟨some a, cap, (List.range len).map q, by rw [hlen], ?_, ?_, fun hp => ?_⟩
    · rw [hlen]; unfold maxLen at hm; omega
    · intro r hr
      obtain ⟨i, hi, rfl⟩ := List.mem_map.1 hr
      exact (hq i (List.mem_range.1 hi)).1
    · rw [hlen] at hp
      obtain ⟨b, off, spot⟩ := a
      have hspot : spot = none := by simpa [Addr.add] using World.cell?_spot (hq 0 hp).2.1
      subst hspot
      refine ⟨b, off, rfl, fun i r hr => ?_⟩
      obtain ⟨hi, rfl⟩ := hget i r hr
      obtain ⟨_, c0, c1, c2⟩ := hq i hi
      have ad : ∀ j, (⟨b, off, none⟩ : Addr).add j = ⟨b, off + j, none⟩ := fun j => by unfold Addr.add; split <;> simp_all
      rw [ad] at c0 c1 c2
      exact ⟨c0, by simpa [Nat.add_assoc] using c1, by simpa [Nat.add_assoc] using c2⟩
end
end Go.Proofs.YtpdfmfkoopdfgaaGreatDoor.Gr
