/- From an argument's reading to a slice of words in memory. -/
import Derived.Test.YtmcfmikpcmbmbaaLaws1
import Derived.Test.YtmcfmikpcmbmbaaAid
namespace Go.Proofs.Ytmcfmikpcmbmbaa
open Go.RowKit Go.ChangeShapes

/-- What is known of a slice of integers that came in. -/
def Aid.IsRow (k : IntKind) (w : World) (a : Option Addr) (len cap : Nat) (zs : List Int) : Prop :=
  (a = none ∧ len = 0 ∧ cap = 0 ∧ zs = []) ∨
  ∃ x, a = some x ∧ len ≤ cap ∧ cap ≤ maxLen ∧ zs.length = cap ∧ (∀ i, i < zs.length → w.cell? (x.add i) = some (.int k (zs.getD i 0))) ∧ ∀ n ∈ zs, (Lit.int k n).wf = true

theorem words_of_row {W : World} {a : Option Addr} {len cap : Nat} {zs : List Int} (h : Aid.IsRow .u64 W a len cap zs) :
    ∃ l : List Int, len = l.length ∧ Words W a l ∧ l.length ≤ cap ∧ cap ≤ 9223372036854775807 := by
  rcases h with ⟨rfl, rfl, rfl, rfl⟩ | ⟨x, rfl, h1, h2, h3, h4, h5⟩
  · exact ⟨[], rfl, ⟨by simp, by simp, fun h => by simp at h⟩, by simp, by omega⟩
  · have hlen : (zs.take len).length = len := by rw [List.length_take]; omega
    unfold maxLen at h2
    refine ⟨zs.take len, hlen.symm, ⟨by omega, fun n hn => ?_, fun hp => ?_⟩, by omega, by omega⟩
    · have := bounds_u64 (h5 n (List.mem_of_mem_take hn)); omega
    · obtain ⟨b, off, spot⟩ := x
      have hc := h4 0 (by omega)
      have hspot : spot = none := by simpa [Addr.add] using World.cell?_spot hc
      subst hspot
      refine ⟨b, off, rfl, fun i hi => ?_⟩
      have := h4 i (by omega)
      rw [Aid.addr_add] at this
      rw [this, List.getD_eq_getElem?_getD, List.getD_eq_getElem?_getD, List.getElem?_take_of_lt (by omega)]
end Go.Proofs.Ytmcfmikpcmbmbaa
