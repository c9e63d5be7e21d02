/- Points in memory, one by one; a slice of one call. -/
import Derived.Test.YthepgdfhdkhhbaaPoints
import Derived.Test.YthepgdfhdkhhbaaHRight
namespace Go.Proofs.Ythepgdfhdkhhbaa
open Go.RowKit Aid

theorem flat_get : ∀ (ps : List Pt) {k : Nat} {p : Pt} {j : Nat} {v : Value}, ps[k]? = some p → p.cells[j]? = some v → (flat ps)[k * 14 + j]? = some v
  | [], k, p, j, v, h, _ => by simp at h
  | q :: ps, 0, p, j, v, h, hj => by
    obtain rfl : q = p := by simpa using h
    rw [flat, Nat.zero_mul, Nat.zero_add, List.getElem?_append_left (List.getElem?_eq_some_iff.1 hj).1]
    exact hj
  | q :: ps, k + 1, p, j, v, h, hj => by
    have h' : ps[k]? = some p := by simpa using h
    have hq : q.cells.length = 14 := rfl
    rw [flat, List.getElem?_append_right (by rw [hq]; omega), hq]
    have := flat_get ps h' hj
    rw [← this]
    congr 1
    omega
/-- A point's cells. -/
def PAt (w : World) (b o : Nat) (p : Pt) : Prop :=
  w.cell? ⟨b, o, none⟩ = some (.int .i64 p.k) ∧ w.cell? ⟨b, o + 1, none⟩ = some (.int .i64 p.u) ∧ w.cell? ⟨b, o + 2, none⟩ = some (.int .i64 p.v) ∧ w.cell? ⟨b, o + 3, none⟩ = some (.int .u64 p.x) ∧ w.cell? ⟨b, o + 4, none⟩ = some (.int .i64 p.err) ∧ w.cell? ⟨b, o + 5, none⟩ = some (.bool p.is) ∧ w.cell? ⟨b, o + 6, none⟩ = some (.int .i64 p.n) ∧ w.cell? ⟨b, o + 7, none⟩ = some (.int .u64 p.w) ∧ w.cell? ⟨b, o + 8, none⟩ = some (.slice none 0 0) ∧ w.cell? ⟨b, o + 9, none⟩ = some (.bool p.any) ∧ w.cell? ⟨b, o + 10, none⟩ = some (.int .i64 p.fr) ∧ w.cell? ⟨b, o + 11, none⟩ = some (.int .i64 p.to) ∧ w.cell? ⟨b, o + 12, none⟩ = some (.int .i64 p.era) ∧ w.cell? ⟨b, o + 13, none⟩ = some (.bool p.must)
theorem sl_pt {w : World} {B : Option Addr} {ps : List Pt} (h : Sl w B (flat ps)) {k : Nat} {p : Pt} (hk : ps[k]? = some p) : ∃ b o, B = some ⟨b, o, none⟩ ∧ PAt w b (o + k * 14) p := by
  have hl := (List.getElem?_eq_some_iff.1 hk).1
  obtain ⟨b, o, rfl, hc⟩ := h (by rw [flat_length]; omega)
  have t : ∀ j v, p.cells[j]? = some v → w.cell? ⟨b, o + k * 14 + j, none⟩ = some v := fun j v hj => by
    rw [Nat.add_assoc]; exact hc _ v (flat_get ps hk hj)
  exact ⟨b, o, rfl, t 0 _ rfl, t 1 _ rfl, t 2 _ rfl, t 3 _ rfl, t 4 _ rfl, t 5 _ rfl, t 6 _ rfl, t 7 _ rfl, t 8 _ rfl, t 9 _ rfl, t 10 _ rfl, t 11 _ rfl, t 12 _ rfl, t 13 _ rfl⟩
/-- The slice of one call. -/
theorem cls_one {w : World} {b off : Nat} {l : List Cl} (h : Cls w (some ⟨b, off, none⟩) l) {i : Nat} {a : Cl} (hi : l[i]? = some a) : Cls w (some ⟨b, off + i * 13, none⟩) [a] := by
  have hm : a ∈ l := List.mem_of_getElem? hi
  refine ⟨fun x hx => by rw [List.mem_singleton.1 hx]; exact h.1 a hm, fun _ => ⟨b, off + i * 13, rfl, fun j x hj => ?_⟩⟩
  obtain ⟨b', off', e, hc⟩ := h.2 (by have := (List.getElem?_eq_some_iff.1 hi).1; omega)
  cases e
  cases j with
  | zero =>
    obtain rfl : a = x := by simpa using hj
    rw [Nat.zero_mul, Nat.add_zero]
    exact hc i a hi
  | succ j => simp at hj
theorem points_one (a : Cl) : pointsOf [a] = ptsOf a (keysOf [a]) := by unfold pointsOf pointsK; simp
theorem points_one_le (a : Cl) : (pointsOf [a]).length ≤ 3 := by
  rw [points_one]
  have h1 := pts_le a (keysOf [a])
  have h2 := keys_len [a]
  simp only [List.length_cons, List.length_nil] at h2
  omega
theorem open_idle {a : Cl} (h : openB a = true) (h2 : idleB a = true) : False := by
  have h3 : a.to < 0 ∨ a.err = 7 := of_decide_eq_true h
  have h4 : 0 ≤ a.to ∧ (a.err = 3 ∨ a.err = 4 ∨ a.err = 6 ∨ a.err = 9) := of_decide_eq_true h2
  omega
theorem open_to {a : Cl} (h : openB a = false) : ¬ a.to < 0 := fun h2 => absurd (show openB a = true from decide_eq_true (.inl h2)) (by rw [h]; exact Bool.false_ne_true)
theorem idle_to {a : Cl} (h : idleB a = true) : ¬ a.to < 0 := by
  have h4 : 0 ≤ a.to ∧ (a.err = 3 ∨ a.err = 4 ∨ a.err = 6 ∨ a.err = 9) := of_decide_eq_true h
  omega
theorem must_idle {a : Cl} (keys : List Int) (h : idleB a = true) : (ptsOf a keys).any (·.must) = false := by
  unfold ptsOf; rw [h, Bool.or_true, if_pos rfl]; rfl
theorem must_open {a : Cl} (keys : List Int) (h : openB a = true) : (ptsOf a keys).any (·.must) = false := by
  unfold ptsOf
  split
  · rfl
  · first | rfl | (rw [if_pos h]; rfl)
theorem must_plain {a : Cl} (keys : List Int) (h : openB a = false) (h2 : idleB a = false) : (ptsOf a keys).any (·.must) = true := by
  unfold ptsOf
  rw [h, h2]
  simp only [Bool.false_and, Bool.false_or, Bool.false_eq_true, if_false]
  split <;> rfl
theorem any_next {ps : List Pt} {k : Nat} {p : Pt} (h : ps[k]? = some p) : (ps.take (k + 1)).any (·.must) = ((ps.take k).any (·.must) || p.must) := by
  obtain ⟨hl, he⟩ := List.getElem?_eq_some_iff.1 h
  rw [List.take_succ_eq_append_getElem hl, List.any_append, he]
  simp
end Go.Proofs.Ythepgdfhdkhhbaa
