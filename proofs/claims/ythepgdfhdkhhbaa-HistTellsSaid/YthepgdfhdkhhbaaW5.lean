/- The document's example, at the head of every statement: it answers true. -/
import Derived.Test.YthepgdfhdkhhbaaEx
namespace Go.Proofs.Ythepgdfhdkhhbaa
open Go.RowKit Aid

theorem range_new (W : World) (cur : Array Value) (t : TypeId) : (W.alloc (.cells cur t)).rangeAt W.heap.size 0 cur.toList := fun j v hj => by
  rw [World.cell?_alloc_new, Nat.zero_add]; simpa using hj
abbrev W5 (w : World) : World := (((((w.alloc (.cells #[.int .i64 0, .int .i64 11, .int .i64 5, .int .i64 0, .int .u64 0, .int .i64 0, .int .i64 0, .int .i64 3, .int .i64 0, .bool true, .int .i64 0, .int .u64 0, .slice none 0 0] 32)).alloc (.cells #[.int .i64 1, .int .i64 16, .int .i64 1, .int .i64 5, .int .u64 0, .int .i64 0, .int .i64 1, .int .i64 2, .int .i64 0, .bool false, .int .i64 0, .int .u64 0, .slice none 0 0] 32)).alloc (.cells #[.int .i64 5] 3)).alloc (.cells #[.int .i64 1, .int .i64 17, .int .i64 1, .int .i64 0, .int .u64 0, .int .i64 0, .int .i64 4, .int .i64 5, .int .i64 0, .bool true, .int .i64 0, .int .u64 0, .slice (some ⟨w.heap.size + 2, 0, none⟩) 1 1] 32)).alloc (.cells #[.int .i64 0, .int .i64 11, .int .i64 5, .int .i64 0, .int .u64 0, .int .i64 0, .int .i64 0, .int .i64 3, .int .i64 0, .bool true, .int .i64 0, .int .u64 0, .slice none 0 0, .int .i64 1, .int .i64 16, .int .i64 1, .int .i64 5, .int .u64 0, .int .i64 0, .int .i64 1, .int .i64 2, .int .i64 0, .bool false, .int .i64 0, .int .u64 0, .slice none 0 0, .int .i64 1, .int .i64 17, .int .i64 1, .int .i64 0, .int .u64 0, .int .i64 0, .int .i64 4, .int .i64 5, .int .i64 0, .bool true, .int .i64 0, .int .u64 0, .slice (some ⟨w.heap.size + 2, 0, none⟩) 1 1] 32))
theorem w5_ok (w : World) : At (W5 w) w.heap.size 0 cA ∧ At (W5 w) (w.heap.size + 1) 0 cB ∧ At (W5 w) (w.heap.size + 3) 0 (cC (w.heap.size + 2)) ∧ Cls (W5 w) (some ⟨w.heap.size + 4, 0, none⟩) (hL (w.heap.size + 2)) ∧ Below w.heap.size w (W5 w) ∧ (W5 w).heap.size = w.heap.size + 5 := by
  have s1 : (w.alloc (.cells #[.int .i64 0, .int .i64 11, .int .i64 5, .int .i64 0, .int .u64 0, .int .i64 0, .int .i64 0, .int .i64 3, .int .i64 0, .bool true, .int .i64 0, .int .u64 0, .slice none 0 0] 32)).heap.size = w.heap.size + 1 := World.size_alloc _ _
  have s2 : ((w.alloc (.cells #[.int .i64 0, .int .i64 11, .int .i64 5, .int .i64 0, .int .u64 0, .int .i64 0, .int .i64 0, .int .i64 3, .int .i64 0, .bool true, .int .i64 0, .int .u64 0, .slice none 0 0] 32)).alloc (.cells #[.int .i64 1, .int .i64 16, .int .i64 1, .int .i64 5, .int .u64 0, .int .i64 0, .int .i64 1, .int .i64 2, .int .i64 0, .bool false, .int .i64 0, .int .u64 0, .slice none 0 0] 32)).heap.size = w.heap.size + 2 := by rw [World.size_alloc, s1]
  have s3 : (((w.alloc (.cells #[.int .i64 0, .int .i64 11, .int .i64 5, .int .i64 0, .int .u64 0, .int .i64 0, .int .i64 0, .int .i64 3, .int .i64 0, .bool true, .int .i64 0, .int .u64 0, .slice none 0 0] 32)).alloc (.cells #[.int .i64 1, .int .i64 16, .int .i64 1, .int .i64 5, .int .u64 0, .int .i64 0, .int .i64 1, .int .i64 2, .int .i64 0, .bool false, .int .i64 0, .int .u64 0, .slice none 0 0] 32)).alloc (.cells #[.int .i64 5] 3)).heap.size = w.heap.size + 3 := by rw [World.size_alloc, s2]
  have s4 : ((((w.alloc (.cells #[.int .i64 0, .int .i64 11, .int .i64 5, .int .i64 0, .int .u64 0, .int .i64 0, .int .i64 0, .int .i64 3, .int .i64 0, .bool true, .int .i64 0, .int .u64 0, .slice none 0 0] 32)).alloc (.cells #[.int .i64 1, .int .i64 16, .int .i64 1, .int .i64 5, .int .u64 0, .int .i64 0, .int .i64 1, .int .i64 2, .int .i64 0, .bool false, .int .i64 0, .int .u64 0, .slice none 0 0] 32)).alloc (.cells #[.int .i64 5] 3)).alloc (.cells #[.int .i64 1, .int .i64 17, .int .i64 1, .int .i64 0, .int .u64 0, .int .i64 0, .int .i64 4, .int .i64 5, .int .i64 0, .bool true, .int .i64 0, .int .u64 0, .slice (some ⟨w.heap.size + 2, 0, none⟩) 1 1] 32)).heap.size = w.heap.size + 4 := by rw [World.size_alloc, s3]
  have a1 := at_box w cA
  have a2 := at_box (w.alloc (.cells #[.int .i64 0, .int .i64 11, .int .i64 5, .int .i64 0, .int .u64 0, .int .i64 0, .int .i64 0, .int .i64 3, .int .i64 0, .bool true, .int .i64 0, .int .u64 0, .slice none 0 0] 32)) cB
  have a3 := at_box (((w.alloc (.cells #[.int .i64 0, .int .i64 11, .int .i64 5, .int .i64 0, .int .u64 0, .int .i64 0, .int .i64 0, .int .i64 3, .int .i64 0, .bool true, .int .i64 0, .int .u64 0, .slice none 0 0] 32)).alloc (.cells #[.int .i64 1, .int .i64 16, .int .i64 1, .int .i64 5, .int .u64 0, .int .i64 0, .int .i64 1, .int .i64 2, .int .i64 0, .bool false, .int .i64 0, .int .u64 0, .slice none 0 0] 32)).alloc (.cells #[.int .i64 5] 3)) (cC (w.heap.size + 2))
  have l5 := range_new ((w.alloc (.cells #[.int .i64 0, .int .i64 11, .int .i64 5, .int .i64 0, .int .u64 0, .int .i64 0, .int .i64 0, .int .i64 3, .int .i64 0, .bool true, .int .i64 0, .int .u64 0, .slice none 0 0] 32)).alloc (.cells #[.int .i64 1, .int .i64 16, .int .i64 1, .int .i64 5, .int .u64 0, .int .i64 0, .int .i64 1, .int .i64 2, .int .i64 0, .bool false, .int .i64 0, .int .u64 0, .slice none 0 0] 32)) #[.int .i64 5] 3
  have r := range_new ((((w.alloc (.cells #[.int .i64 0, .int .i64 11, .int .i64 5, .int .i64 0, .int .u64 0, .int .i64 0, .int .i64 0, .int .i64 3, .int .i64 0, .bool true, .int .i64 0, .int .u64 0, .slice none 0 0] 32)).alloc (.cells #[.int .i64 1, .int .i64 16, .int .i64 1, .int .i64 5, .int .u64 0, .int .i64 0, .int .i64 1, .int .i64 2, .int .i64 0, .bool false, .int .i64 0, .int .u64 0, .slice none 0 0] 32)).alloc (.cells #[.int .i64 5] 3)).alloc (.cells #[.int .i64 1, .int .i64 17, .int .i64 1, .int .i64 0, .int .u64 0, .int .i64 0, .int .i64 4, .int .i64 5, .int .i64 0, .bool true, .int .i64 0, .int .u64 0, .slice (some ⟨w.heap.size + 2, 0, none⟩) 1 1] 32)) #[.int .i64 0, .int .i64 11, .int .i64 5, .int .i64 0, .int .u64 0, .int .i64 0, .int .i64 0, .int .i64 3, .int .i64 0, .bool true, .int .i64 0, .int .u64 0, .slice none 0 0, .int .i64 1, .int .i64 16, .int .i64 1, .int .i64 5, .int .u64 0, .int .i64 0, .int .i64 1, .int .i64 2, .int .i64 0, .bool false, .int .i64 0, .int .u64 0, .slice none 0 0, .int .i64 1, .int .i64 17, .int .i64 1, .int .i64 0, .int .u64 0, .int .i64 0, .int .i64 4, .int .i64 5, .int .i64 0, .bool true, .int .i64 0, .int .u64 0, .slice (some ⟨w.heap.size + 2, 0, none⟩) 1 1] 32
  rw [s1] at a2
  rw [s3] at a3
  rw [s2] at l5
  rw [s4] at r
  have b : ∀ (W : World) (o : Obj), Below W.heap.size W (W.alloc o) := fun W o => (Below.refl _ _).alloc (Nat.le_refl _) o
  have bw : Below w.heap.size w (W5 w) := ((((b w _).alloc (by rw [s1]; omega) _).alloc (by rw [s2]; omega) _).alloc (by rw [s3]; omega) _).alloc (by rw [s4]; omega) _
  refine ⟨?_, ?_, ?_, ⟨?_, fun _ => ⟨_, _, rfl, fun i a hi => ?_⟩⟩, bw, by rw [World.size_alloc, s4]⟩
  · exact (((a1.below (b _ _) (Nat.le_refl _)).below (b _ _) (Nat.le_refl _)).below (b _ _) (Nat.le_refl _)).below (b _ _) (Nat.le_refl _)
  · exact ((a2.below (b _ _) (Nat.le_refl _)).below (b _ _) (Nat.le_refl _)).below (b _ _) (Nat.le_refl _)
  · exact a3.below (b _ _) (Nat.le_refl _)
  · intro a ha
    have : a = cA ∨ a = cB ∨ a = cC (w.heap.size + 2) := by simpa [hL] using ha
    rcases this with rfl | rfl | rfl
    · intro hp; simp [cA] at hp
    · intro hp; simp [cB] at hp
    · intro _
      refine ⟨_, _, rfl, fun j v hj => ?_⟩
      have h5 := l5 j v (by simpa [cC] using hj)
      have k1 := (b ((w.alloc (.cells #[.int .i64 0, .int .i64 11, .int .i64 5, .int .i64 0, .int .u64 0, .int .i64 0, .int .i64 0, .int .i64 3, .int .i64 0, .bool true, .int .i64 0, .int .u64 0, .slice none 0 0] 32)).alloc (.cells #[.int .i64 1, .int .i64 16, .int .i64 1, .int .i64 5, .int .u64 0, .int .i64 0, .int .i64 1, .int .i64 2, .int .i64 0, .bool false, .int .i64 0, .int .u64 0, .slice none 0 0] 32) |>.alloc (.cells #[.int .i64 5] 3)) (.cells #[.int .i64 1, .int .i64 17, .int .i64 1, .int .i64 0, .int .u64 0, .int .i64 0, .int .i64 4, .int .i64 5, .int .i64 0, .bool true, .int .i64 0, .int .u64 0, .slice (some ⟨w.heap.size + 2, 0, none⟩) 1 1] 32)).cell (p := ⟨w.heap.size + 2, 0 + j, none⟩) (World.block_lt_of_cell? _ _ h5)
      have k2 := (b _ (.cells #[.int .i64 0, .int .i64 11, .int .i64 5, .int .i64 0, .int .u64 0, .int .i64 0, .int .i64 0, .int .i64 3, .int .i64 0, .bool true, .int .i64 0, .int .u64 0, .slice none 0 0, .int .i64 1, .int .i64 16, .int .i64 1, .int .i64 5, .int .u64 0, .int .i64 0, .int .i64 1, .int .i64 2, .int .i64 0, .bool false, .int .i64 0, .int .u64 0, .slice none 0 0, .int .i64 1, .int .i64 17, .int .i64 1, .int .i64 0, .int .u64 0, .int .i64 0, .int .i64 4, .int .i64 5, .int .i64 0, .bool true, .int .i64 0, .int .u64 0, .slice (some ⟨w.heap.size + 2, 0, none⟩) 1 1] 32)).cell (p := ⟨w.heap.size + 2, 0 + j, none⟩) (World.block_lt_of_cell? _ _ (k1.trans h5))
      exact (k2.trans k1).trans h5
  · have hi3 : i = 0 ∨ i = 1 ∨ i = 2 := by have := (List.getElem?_eq_some_iff.1 hi).1; simp [hL] at this; omega
    rcases hi3 with rfl | rfl | rfl
    · obtain rfl : cA = a := by simpa [hL] using hi
      intro j v hj
      have hj13 : j < 13 := (List.getElem?_eq_some_iff.1 hj).1
      refine r (0 * 13 + j) v ?_ |> fun h => by simpa using h
      have e : (#[.int .i64 0, .int .i64 11, .int .i64 5, .int .i64 0, .int .u64 0, .int .i64 0, .int .i64 0, .int .i64 3, .int .i64 0, .bool true, .int .i64 0, .int .u64 0, .slice none 0 0, .int .i64 1, .int .i64 16, .int .i64 1, .int .i64 5, .int .u64 0, .int .i64 0, .int .i64 1, .int .i64 2, .int .i64 0, .bool false, .int .i64 0, .int .u64 0, .slice none 0 0, .int .i64 1, .int .i64 17, .int .i64 1, .int .i64 0, .int .u64 0, .int .i64 0, .int .i64 4, .int .i64 5, .int .i64 0, .bool true, .int .i64 0, .int .u64 0, .slice (some ⟨w.heap.size + 2, 0, none⟩) 1 1] : Array Value).toList = cA.cells ++ (cB.cells ++ (cC (w.heap.size + 2)).cells) := rfl
      rw [e, List.getElem?_append_left (by show _ < 13; omega)]
      simpa using hj
    · obtain rfl : cB = a := by simpa [hL] using hi
      intro j v hj
      have hj13 : j < 13 := (List.getElem?_eq_some_iff.1 hj).1
      refine r (1 * 13 + j) v ?_ |> fun h => by simpa using h
      have e : (#[.int .i64 0, .int .i64 11, .int .i64 5, .int .i64 0, .int .u64 0, .int .i64 0, .int .i64 0, .int .i64 3, .int .i64 0, .bool true, .int .i64 0, .int .u64 0, .slice none 0 0, .int .i64 1, .int .i64 16, .int .i64 1, .int .i64 5, .int .u64 0, .int .i64 0, .int .i64 1, .int .i64 2, .int .i64 0, .bool false, .int .i64 0, .int .u64 0, .slice none 0 0, .int .i64 1, .int .i64 17, .int .i64 1, .int .i64 0, .int .u64 0, .int .i64 0, .int .i64 4, .int .i64 5, .int .i64 0, .bool true, .int .i64 0, .int .u64 0, .slice (some ⟨w.heap.size + 2, 0, none⟩) 1 1] : Array Value).toList = cA.cells ++ (cB.cells ++ (cC (w.heap.size + 2)).cells) := rfl
      rw [e, List.getElem?_append_right (by show 13 ≤ _; omega), show 1 * 13 + j - cA.cells.length = j from by show 1 * 13 + j - 13 = j; omega, List.getElem?_append_left (by show _ < 13; omega)]
      exact hj
    · obtain rfl : cC (w.heap.size + 2) = a := by simpa [hL] using hi
      intro j v hj
      have hj13 : j < 13 := (List.getElem?_eq_some_iff.1 hj).1
      refine r (2 * 13 + j) v ?_ |> fun h => by simpa using h
      have e : (#[.int .i64 0, .int .i64 11, .int .i64 5, .int .i64 0, .int .u64 0, .int .i64 0, .int .i64 0, .int .i64 3, .int .i64 0, .bool true, .int .i64 0, .int .u64 0, .slice none 0 0, .int .i64 1, .int .i64 16, .int .i64 1, .int .i64 5, .int .u64 0, .int .i64 0, .int .i64 1, .int .i64 2, .int .i64 0, .bool false, .int .i64 0, .int .u64 0, .slice none 0 0, .int .i64 1, .int .i64 17, .int .i64 1, .int .i64 0, .int .u64 0, .int .i64 0, .int .i64 4, .int .i64 5, .int .i64 0, .bool true, .int .i64 0, .int .u64 0, .slice (some ⟨w.heap.size + 2, 0, none⟩) 1 1] : Array Value).toList = cA.cells ++ (cB.cells ++ (cC (w.heap.size + 2)).cells) := rfl
      rw [e, List.getElem?_append_right (by show 13 ≤ _; omega), show 2 * 13 + j - cA.cells.length = 13 + j from by show 2 * 13 + j - 13 = 13 + j; omega, List.getElem?_append_right (by show 13 ≤ _; omega), show 13 + j - cB.cells.length = j from by show 13 + j - 13 = j; omega]
      exact hj
end Go.Proofs.Ythepgdfhdkhhbaa
