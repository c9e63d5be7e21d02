/- LOpen2. -/
import Derived.Test.YtpdfmfkoopdfgaaGreatDoorB43
import Derived.Test.YtpdfmfkoopdfgaaGreatDoorB38
set_option linter.unusedVariables false
set_option linter.unusedSimpArgs false
namespace Go.Proofs.YtpdfmfkoopdfgaaGreatDoor
set_option maxRecDepth 100000
open Go.RowKit Go.ChangeShapes Go.WideShapes Aid Gr Hs

instance : Inhabited Gr.Op := ⟨⟨0, 0, 0, 0⟩⟩
section
variable {H : Type} {enc : TypeId × Value → H} {w : World} {base : Nat} {spare : Nat → Bool} {held : Bool}
theorem open_bytes {n : Nat} {cs : List Value} {x : DataW H × List MemPlace} (h : DataW.trod enc Tryz.prog w base spare held n 31 cs = some x) : ∃ (A : Option Addr) (c : Nat) (l : List Int), cs = [.slice A l.length c] ∧ Sl w A (l.map (Value.int .u8)) ∧ ∀ z ∈ l, 0 ≤ z ∧ z < 256 := by
  rcases Go.ChangeShapes.open_ints Tryz.underlying31 Tryz.underlying5 cells5 h with ⟨rfl, _⟩ | ⟨a, len, cap, zs, rfl, _, hl, hm, hz, _, hc, hw⟩
  · exact ⟨none, 0, [], rfl, fun h => by simp at h, fun z h => by simp at h⟩
  · have hle : len ≤ zs.length := by rw [hz]; split <;> omega
    have hlen : (zs.take len).length = len := by rw [List.length_take]; omega
    refine ⟨some a, cap, zs.take len, by rw [hlen], fun hp => ?_, fun z hz0 => ?_⟩
    · rw [List.length_map, hlen] at hp
      obtain ⟨b, off, spot⟩ := a
      have hspot : spot = none := by simpa [Addr.add] using World.cell?_spot (hc 0 (by omega))
      subst hspot
      refine ⟨b, off, rfl, fun j u hj => ?_⟩
      rw [List.getElem?_map] at hj
      obtain ⟨z, hz1, rfl⟩ := Option.map_eq_some_iff.1 hj
      obtain ⟨hj2, hz2⟩ := List.getElem?_eq_some_iff.1 hz1
      have hj3 : j < len := by rw [hlen] at hj2; exact hj2
      have h9 := hc j (by omega)
      rw [addr_add] at h9
      rw [h9, ← hz2, List.getElem_take, List.getD_eq_getElem?_getD, List.getElem?_eq_getElem (by omega)]
      rfl
    · have := bounds_u8 (hw z (List.mem_of_mem_take hz0)); omega
theorem open_ops {fuel : Nat} {cs : List Value} {x : DataW H × List MemPlace} (h : DataW.trod enc Tryz.prog w base spare held fuel 32 cs = some x) : ∃ (A : Option Addr) (c : Nat) (l : List Gr.Op), cs = [.slice A l.length c] ∧ (∀ a ∈ l, a.Fine) ∧ Sl w A (opflat l) := by
  rcases Go.Deep.open_slice Tryz.underlying32 h with ⟨rfl, _⟩ | ⟨a, len, cap, m, n, D, Pl, rfl, hb, hl, hm, hmm, _, hx⟩
  · exact ⟨none, 0, [], rfl, by simp, fun h => by simp [opflat] at h⟩
  · have hlm : len ≤ m := by rw [hmm]; split <;> omega
    have each : ∀ i, i < len → ∃ r : Gr.Op, r.Fine ∧ ∀ j v, r.cells[j]? = some v → w.cell? (a.add (i * 4 + j)) = some v := by
      intro i hi
      obtain ⟨cs', h1, h2⟩ := hx i (by omega)
      rw [Hs.cellsOf30] at h1
      obtain ⟨r, hr, rfl⟩ := open_op h2
      obtain ⟨_, _, hcell⟩ := World.cells?_some h1
      refine ⟨r, hr, fun j v hj => ?_⟩
      have hj1 : j < 4 := by
        have := (List.getElem?_eq_some_iff.1 hj).1
        unfold Gr.Op.cells at this
        simpa using this
      have e := hcell j hj1
      rw [Go.Deep.add_add] at e
      rw [e]
      exact hj
    obtain ⟨q, hq⟩ := Go.Deep.choose_lt each
    have hlen : ((List.range len).map q).length = len := by simp
    have hget : ∀ i r, ((List.range len).map q)[i]? = some r → i < len ∧ r = q i := fun i r hr => by
      have hi : i < len := by have := (List.getElem?_eq_some_iff.1 hr).1; rw [hlen] at this; exact this
      rw [List.getElem?_map, List.getElem?_range hi] at hr
      exact ⟨hi, (Option.some.inj hr).symm⟩
    refine ⟨some a, cap, (List.range len).map q, by rw [hlen], ?_, fun hp => ?_⟩
    · intro r hr
      obtain ⟨i, hi, rfl⟩ := List.mem_map.1 hr
      exact (hq i (List.mem_range.1 hi)).1
    · rw [opflat_length, hlen] at hp
      obtain ⟨b, off, spot⟩ := a
      have hspot : spot = none := by simpa [Addr.add] using World.cell?_spot ((hq 0 (by omega)).2 0 _ rfl)
      subst hspot
      refine ⟨b, off, rfl, fun j v hj => ?_⟩
      obtain ⟨i, k, p, h1, h2, rfl⟩ := opflat_at _ j v hj
      obtain ⟨hi, rfl⟩ := hget i p h1
      have e := (hq i hi).2 k v h2
      rw [addr_add] at e
      exact e
end
end Go.Proofs.YtpdfmfkoopdfgaaGreatDoor
