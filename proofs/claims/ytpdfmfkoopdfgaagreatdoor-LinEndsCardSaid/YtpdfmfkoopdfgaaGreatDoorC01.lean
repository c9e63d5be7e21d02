/- HFlat. -/
import Derived.Test.YtpdfmfkoopdfgaaGreatDoorC00
import Derived.Test.YtpdfmfkoopdfgaaGreatDoorB31
set_option linter.unusedVariables false
set_option linter.unusedSimpArgs false
section
namespace Go.Proofs.YtpdfmfkoopdfgaaGreatDoor.Hs
set_option maxRecDepth 100000
open Go.RowKit Aid

def flatC : List Cl → List Value
  | [] => []
  | p :: l => p.cells ++ flatC l
theorem flatC_append : ∀ l k : List Cl, flatC (l ++ k) = flatC l ++ flatC k
  | [], _ => rfl
  | p :: l, k => by rw [List.cons_append, flatC, flatC, flatC_append l k, List.append_assoc]
theorem flatC_length : ∀ l : List Cl, (flatC l).length = l.length * 13
  | [] => rfl
  | p :: l => by rw [flatC, List.length_append, flatC_length l, List.length_cons]; show 13 + _ = _; omega
theorem flatC_get : ∀ (ps : List Cl) {k : Nat} {p : Cl} {j : Nat} {v : Value}, ps[k]? = some p → p.cells[j]? = some v → (flatC ps)[k * 13 + j]? = some v
  | [], k, p, j, v, h, _ => by simp at h
  | q :: ps, 0, p, j, v, h, hj => by
    obtain rfl : q = p := by simpa using h
    rw [flatC, Nat.zero_mul, Nat.zero_add, List.getElem?_append_left (List.getElem?_eq_some_iff.1 hj).1]
    exact hj
  | q :: ps, k + 1, p, j, v, h, hj => by
    have h' : ps[k]? = some p := by simpa using h
    have hq : q.cells.length = 13 := rfl
    rw [flatC, List.getElem?_append_right (by rw [hq]; omega), hq]
    have := flatC_get ps h' hj
    rw [← this]
    congr 1
    omega
theorem flatC_one : ∀ l : List Cl, ∀ v ∈ flatC l, v.oneCell' = true
  | [], v, hv => by simp [flatC] at hv
  | p :: l, v, hv => by
    rw [flatC, List.mem_append] at hv
    rcases hv with hv | hv
    · unfold Cl.cells at hv
      simp only [List.mem_cons, List.not_mem_nil, or_false] at hv
      rcases hv with rfl | rfl | rfl | rfl | rfl | rfl | rfl | rfl | rfl | rfl | rfl | rfl | rfl <;> rfl
    · exact flatC_one l v hv
/-- A row of the call's own reads as a slice of calls. -/
theorem own_cls {w : World} {base : Nat} {A : Option Addr} {n c : Nat} {l : List Cl} (h : w.ownsRow base 43 13 (.slice A n c) n (flatC l)) (hL : ∀ a ∈ l, Sl w a.A (a.list.map (Value.int .i64))) : Cls w A l := by
  refine ⟨hL, fun hp => ?_⟩
  obtain ⟨b, off, rfl, hc⟩ := own_slk h (by rw [flatC_length]; omega)
  exact ⟨b, off, rfl, fun i a hi j v hj => by
    have := hc _ v (flatC_get l hi hj)
    rwa [← Nat.add_assoc] at this⟩
theorem own_capC {w : World} {base e size : Nat} {A : Option Addr} {n c : Nat} {xs : List Value} (h : w.ownsRow base e size (.slice A n c) n xs) : n ≤ c ∧ c ≤ 9223372036854775807 := by
  rcases h.2 with ⟨h1, h2⟩ | ⟨g, cap, cur, hv, _, _, h3, h4, _⟩
  · cases h1; exact ⟨Nat.le_refl _, by omega⟩
  · cases hv; unfold maxLen at h4; exact ⟨h3, by omega⟩
theorem call_info : (Tryz.prog.info? 43).map (fun i => (i.zero, i.size, i.bytes)) = some (some (.agg #[.int .i64 0, .int .i64 0, .int .i64 0, .int .i64 0, .int .u64 0, .int .i64 0, .int .i64 0, .int .i64 0, .int .i64 0, .bool false, .int .i64 0, .int .u64 0, .slice none 0 0]), 13, 120) := by kernel_rfl
theorem sl_call (W : World) (a : Cl) : Sl (W.alloc (bx a)) (some ⟨W.heap.size, 0, none⟩) (flatC [a]) := fun _ => ⟨_, _, rfl, fun j v hj => by
  unfold bx
  rw [World.cell?_alloc_new]
  have : flatC [a] = a.cells := by simp [flatC]
  rw [this] at hj
  unfold Cl.cells at hj
  simpa using hj⟩
end Go.Proofs.YtpdfmfkoopdfgaaGreatDoor.Hs
end
