/- From an argument's reading to a slice of bytes in memory; from the listed table to its cells. -/
import Derived.Test.YtlbaedgmbdljpaaDoorShown
import Derived.Test.YtlbaedgmbdljpaaDoorAid
namespace Go.Proofs.YtlbaedgmbdljpaaDoor
open Go.RowKit Go.ChangeShapes

/-- What is known of a slice of integers that came in. -/
def Aid.IsRow (k : IntKind) (w : World) (a : Option Addr) (len cap : Nat) (zs : List Int) : Prop :=
  (a = none ∧ len = 0 ∧ cap = 0 ∧ zs = []) ∨
  ∃ x, a = some x ∧ len ≤ cap ∧ cap ≤ maxLen ∧ zs.length = cap ∧ (∀ i, i < zs.length → w.cell? (x.add i) = some (.int k (zs.getD i 0))) ∧ ∀ n ∈ zs, (Lit.int k n).wf = true

theorem bytes_of_row {W : World} {a : Option Addr} {len cap : Nat} {zs : List Int} (h : Aid.IsRow .u8 W a len cap zs) :
    ∃ l : List Int, len = l.length ∧ Bytes W a l ∧ l.length ≤ cap ∧ cap ≤ 9223372036854775807 := by
  rcases h with ⟨rfl, rfl, rfl, rfl⟩ | ⟨x, rfl, h1, h2, h3, h4, h5⟩
  · exact ⟨[], rfl, ⟨by simp, by simp, fun h => by simp at h⟩, by simp, by omega⟩
  · have hlen : (zs.take len).length = len := by rw [List.length_take]; omega
    unfold maxLen at h2
    refine ⟨zs.take len, hlen.symm, ⟨by omega, fun n hn => ?_, fun hp => ?_⟩, by omega, by omega⟩
    · have := bounds_u8 (h5 n (List.mem_of_mem_take hn)); omega
    · obtain ⟨b, off, spot⟩ := x
      have hc := h4 0 (by omega)
      have hspot : spot = none := by simpa [Addr.add] using World.cell?_spot hc
      subst hspot
      refine ⟨b, off, rfl, fun i hi => ?_⟩
      have := h4 i (by omega)
      rw [Aid.addr_add] at this
      rw [this, List.getD_eq_getElem?_getD, List.getD_eq_getElem?_getD, List.getElem?_take_of_lt (by omega)]

/-- What is known of a slice of slices of integers that came in. -/
def Aid.IsRws (k : IntKind) (w : World) (a : Option Addr) (len cap : Nat) : Prop :=
  (a = none ∧ len = 0 ∧ cap = 0) ∨
  ∃ (x : Addr) (A : Nat → Option Addr) (L C : Nat → Nat) (Z : Nat → List Int), a = some x ∧ len ≤ cap ∧ cap ≤ maxLen ∧ ∀ r, r < cap → w.cell? (x.add r) = some (.slice (A r) (L r) (C r)) ∧ L r ≤ C r ∧ C r ≤ maxLen ∧ (Z r).length = C r ∧ (∀ n ∈ Z r, (Lit.int k n).wf = true) ∧ (A r = none → C r = 0) ∧
    ∀ a', A r = some a' → ∀ c, c < C r → w.cell? (a'.add c) = some (.int k ((Z r).getD c 0))
theorem rows_of_row {W : World} {a : Option Addr} {len cap : Nat} (h : Aid.IsRws .u8 W a len cap) :
    ∃ L : List (List Int), len = L.length ∧ Rws W a L ∧ L.length ≤ cap ∧ cap ≤ 9223372036854775807 := by
  have hmx : maxLen = 9223372036854775807 := rfl
  rcases h with ⟨rfl, rfl, rfl⟩ | ⟨x, A, L, C, Z, rfl, h1, h2, h3⟩
  · exact ⟨[], rfl, ⟨by simp, fun h => by simp at h⟩, by simp, by omega⟩
  · have hlen : ((List.range len).map fun r => (Z r).take (L r)).length = len := by simp
    refine ⟨(List.range len).map fun r => (Z r).take (L r), hlen.symm, ⟨by omega, fun hp => ?_⟩, by omega, by omega⟩
    rw [hlen] at hp
    obtain ⟨b, off, spot⟩ := x
    have hspot : spot = none := by simpa [Addr.add] using World.cell?_spot (h3 0 (by omega)).1
    subst hspot
    refine ⟨b, off, rfl, fun r hr => ?_⟩
    rw [hlen] at hr
    obtain ⟨c1, c2, c3, c4, c5, c6, c7⟩ := h3 r (by omega)
    rw [Aid.addr_add] at c1
    have e : ((List.range len).map fun r => (Z r).take (L r)).getD r [] = (Z r).take (L r) := by
      rw [List.getD_eq_getElem?_getD, List.getElem?_map, List.getElem?_range hr]; rfl
    have el : ((Z r).take (L r)).length = L r := by rw [List.length_take]; omega
    rw [e, el]
    refine ⟨A r, C r, c2, by omega, c1, ⟨by omega, fun n hn => ?_, fun hp' => ?_⟩⟩
    · have := bounds_u8 (c5 n (List.mem_of_mem_take hn)); omega
    · cases hA : A r with
      | none => have := c6 hA; omega
      | some a' =>
        have hcell := c7 a' hA 0 (by omega)
        obtain ⟨b', off', spot'⟩ := a'
        have hspot' : spot' = none := by simpa [Addr.add] using World.cell?_spot hcell
        subst hspot'
        refine ⟨b', off', rfl, fun i hi => ?_⟩
        have := c7 _ hA i (by omega)
        rw [Aid.addr_add] at this
        rw [this, List.getD_eq_getElem?_getD, List.getD_eq_getElem?_getD, List.getElem?_take_of_lt (by omega)]

theorem tab_of_cells {W : World} (h : ∀ i, i < 16 → W.cell? ⟨0, i, none⟩ = some (.int .u32 (([0, 498536548, 997073096, 651767980, 1994146192, 1802195444, 1303535960, 1342533948, 3988292384, 4027552580, 3604390888, 3412177804, 2607071920, 2262029012, 2685067896, 3183342108] : List Int).getD i 0))) : Tab W := by
  intro k hk
  rw [h k hk]
  have : k = 0 ∨ k = 1 ∨ k = 2 ∨ k = 3 ∨ k = 4 ∨ k = 5 ∨ k = 6 ∨ k = 7 ∨ k = 8 ∨ k = 9 ∨ k = 10 ∨ k = 11 ∨ k = 12 ∨ k = 13 ∨ k = 14 ∨ k = 15 := by omega
  rcases this with rfl | rfl | rfl | rfl | rfl | rfl | rfl | rfl | rfl | rfl | rfl | rfl | rfl | rfl | rfl | rfl <;> (unfold N; rfl)
end Go.Proofs.YtlbaedgmbdljpaaDoor
