/- The document's example, at the head of every statement: it answers true. -/
import Derived.Test.YtilnakkjckfhgaaDoorWalks
import Derived.Deep.RegionHeld3
import Derived.Outline
import Derived.Lib.SlBytesConst
namespace Go.Proofs.YtilnakkjckfhgaaDoor
open Go.RowKit

theorem Tab.below {B : Nat} {w w' : World} (h : Tab w) (hb : Below B w w') (hB : 0 < B) : Tab w' := fun k hk => (hb.cell (p := ⟨0, k, none⟩) hB).trans (h k hk)
theorem Tab.heap {w : World} (h : Tab w) : 0 < w.heap.size := World.block_lt_of_cell? w ⟨0, 0, none⟩ (h 0 (by omega))
theorem Bytes.take {w : World} {A : Option Addr} {l : List Int} (h : Bytes w A l) (k : Nat) : Bytes w A (l.take k) := by
  obtain ⟨h1, h2, h3⟩ := h
  refine ⟨by rw [List.length_take]; omega, fun n hn => h2 n (List.mem_of_mem_take hn), fun hp => ?_⟩
  rw [List.length_take] at hp
  obtain ⟨b, off, hA, hc⟩ := h3 (by omega)
  refine ⟨b, off, hA, fun i hi => ?_⟩
  rw [List.length_take] at hi
  rw [hc i (by omega), List.getD_eq_getElem?_getD, List.getD_eq_getElem?_getD, List.getElem?_take_of_lt (by omega)]
theorem Bytes.drop {w : World} {b off : Nat} {l : List Int} (h : Bytes w (some ⟨b, off, none⟩) l) (k : Nat) : Bytes w (some ⟨b, off + k, none⟩) (l.drop k) := by
  obtain ⟨h1, h2, h3⟩ := h
  refine ⟨by rw [List.length_drop]; omega, fun n hn => h2 n (List.mem_of_mem_drop hn), fun hp => ?_⟩
  rw [List.length_drop] at hp
  obtain ⟨b', off', hA, hc⟩ := h3 (by omega)
  obtain ⟨rfl, rfl⟩ : b = b' ∧ off = off' := by simpa using hA
  refine ⟨b, off + k, rfl, fun i hi => ?_⟩
  rw [List.length_drop] at hi
  rw [Nat.add_assoc, hc (k + i) (by omega), List.getD_eq_getElem?_getD, List.getD_eq_getElem?_getD, List.getElem?_drop]

def nine : List Int := [49, 50, 51, 52, 53, 54, 55, 56, 57]
set_option maxRecDepth 100000 in
theorem sum_nine : N (sum nine) = 3421780262 := by unfold N; decide
set_option maxRecDepth 100000 in
theorem more_nine : N (Plain.more (sum (nine.take 4)) ((nine.drop 4).map W)) = 3421780262 := by unfold N; decide
theorem sum_nil : N (sum []) = 0 := by unfold N; decide
theorem sum_0 : N (sum [0]) = 3523407757 := by unfold N; decide
theorem sum_1 : N (sum [1]) = 2768625435 := by unfold N; decide

theorem cn1 (w : World) (v : Value) : ((w.alloc (.cells #[v] 5)).drew).cell? ⟨w.heap.size, 0, none⟩ = some v := by rw [World.cell?_drew, World.cell?_alloc_new]; rfl
theorem cn2 (w : World) (v : Value) (o : Obj) : (((w.alloc o).alloc (.cells #[v] 5)).drew).cell? ⟨w.heap.size + 1, 0, none⟩ = some v := by
  have := cn1 (w.alloc o) v
  rwa [show (w.alloc o).heap.size = w.heap.size + 1 from by simp] at this
theorem cn3 (w : World) (v : Value) (o o' : Obj) : (((((w.alloc o).alloc (.cells #[v] 5))).alloc o').drew).cell? ⟨w.heap.size + 1, 0, none⟩ = some v := by
  have h := cn2 w v o
  rw [World.cell?_drew] at h ⊢
  exact (World.cell?_alloc_lt _ _ _ (by simp)).trans h
theorem cn4 (w : World) (v : Value) (o o' : Obj) : (((((w.alloc o).alloc o')).alloc (.cells #[v] 5)).drew).cell? ⟨w.heap.size + 2, 0, none⟩ = some v := by
  have := cn2 (w.alloc o) v o'
  rwa [show (w.alloc o).heap.size + 1 = w.heap.size + 2 from by simp] at this
/-- What holds all along: the table, the nine bytes in the new block, the rest as it was. -/
def Sh (w w' : World) : Prop := Tab w' ∧ Bytes w' (some ⟨w.heap.size, 0, none⟩) nine ∧ Below w.heap.size w w' ∧ w.heap.size < w'.heap.size
theorem Sh.start (w : World) (h : Tab w) : Sh w (w.alloc (.cells #[.int .u8 49, .int .u8 50, .int .u8 51, .int .u8 52, .int .u8 53, .int .u8 54, .int .u8 55, .int .u8 56, .int .u8 57] 5 (9, 10))).drew := by
  have hb : Below w.heap.size w (w.alloc (.cells #[.int .u8 49, .int .u8 50, .int .u8 51, .int .u8 52, .int .u8 53, .int .u8 54, .int .u8 55, .int .u8 56, .int .u8 57] 5 (9, 10))).drew := ((Below.refl _ _).alloc (Nat.le_refl _) _).drew
  refine ⟨h.below hb h.heap, ⟨by decide, by decide, fun _ => ⟨_, _, rfl, fun i hi => ?_⟩⟩, hb, by simp⟩
  have hi' : i < 9 := hi
  have : i = 0 ∨ i = 1 ∨ i = 2 ∨ i = 3 ∨ i = 4 ∨ i = 5 ∨ i = 6 ∨ i = 7 ∨ i = 8 := by omega
  rcases this with rfl | rfl | rfl | rfl | rfl | rfl | rfl | rfl | rfl <;> (rw [World.cell?_drew, World.cell?_alloc_mark]; rfl)
theorem Sh.alloc {w w' : World} (h : Sh w w') (o : Obj) : Sh w (w'.alloc o) := by
  obtain ⟨h1, h2, h3, h4⟩ := h
  refine ⟨h1.below ((Below.refl _ _).alloc (Nat.le_refl _) _) h1.heap, ⟨h2.1, h2.2.1, fun hp => ?_⟩, h3.alloc h3.size _, by simp; omega⟩
  obtain ⟨b, off, hA, hc⟩ := h2.2.2 hp
  exact ⟨b, off, hA, fun i hi => (World.cell?_alloc_lt _ _ _ (World.block_lt_of_cell? _ _ (hc i hi))).trans (hc i hi)⟩

theorem tab_of {w w' : World} (h : Sh w w') : Tab w' := h.1
theorem below_of {w w' : World} (h : Sh w w') : Below w.heap.size w w' := h.2.2.1
theorem c1 {w w' : World} (h : Sh w w') : Calls Tryd.prog 11 #[.slice (some ⟨w.heap.size, 0, none⟩) 9 9] w' fun e w'' => e = .returned (.int .u32 3421780262) ∧ w' = w'' := by
  rw [← sum_nine]; exact sum_at _ _ _ nine rfl _ h.1 h.2.1
theorem c2 {w w' : World} (h : Sh w w') : Calls Tryd.prog 11 #[.slice (some ⟨w.heap.size, 0, none⟩) 4 9] w' fun e w'' => e = .returned (.int .u32 (N (sum (nine.take 4)))) ∧ w' = w'' :=
  sum_at _ _ _ (nine.take 4) rfl _ h.1 (h.2.1.take 4)
theorem c3 {w w' : World} (h : Sh w w') : Calls Tryd.prog 13 #[.int .u32 (N (sum (nine.take 4))), .slice (some ⟨w.heap.size, 4, none⟩) 5 5] w' fun e w'' => e = .returned (.int .u32 3421780262) ∧ w' = w'' := by
  rw [← more_nine]; exact more_at _ _ rfl _ _ _ (nine.drop 4) rfl _ h.1 (by simpa using h.2.1.drop 4)
theorem c4 {w : World} (h : Tab w) : Calls Tryd.prog 11 #[.slice none 0 0] w fun e w'' => e = .returned (.int .u32 0) ∧ w = w'' := by
  rw [← sum_nil]; exact sum_at _ _ _ [] rfl _ h ⟨by decide, by simp, fun h => by simp at h⟩
theorem c5 {w : World} (b : Nat) (h : Tab w) (hc : w.cell? ⟨b, 0, none⟩ = some (.int .u8 0)) : Calls Tryd.prog 11 #[.slice (some ⟨b, 0, none⟩) 1 1] w fun e w'' => e = .returned (.int .u32 3523407757) ∧ w = w'' := by
  rw [← sum_0]; exact sum_at _ _ _ [0] rfl _ h ⟨by decide, by decide, fun _ => ⟨_, _, rfl, fun i hi => by
    obtain rfl : i = 0 := by simpa using hi
    simpa using hc⟩⟩
theorem c6 {w : World} (b : Nat) (h : Tab w) (hc : w.cell? ⟨b, 0, none⟩ = some (.int .u8 1)) : Calls Tryd.prog 11 #[.slice (some ⟨b, 0, none⟩) 1 1] w fun e w'' => e = .returned (.int .u32 2768625435) ∧ w = w'' := by
  rw [← sum_1]; exact sum_at _ _ _ [1] rfl _ h ⟨by decide, by decide, fun _ => ⟨_, _, rfl, fun i hi => by
    obtain rfl : i = 0 := by simpa using hi
    simpa using hc⟩⟩

theorem shown_any (w : World) (ht : Tab w) : Calls Tryd.prog 10 #[] w fun e w' => e = .returned (.bool true) ∧ Below w.heap.size w w' := by
  have HT := Lib.hid ht
  clear ht
  have kc := fun (w : World) (C : Array Value) (n c : Nat) => Lib.run_convert_bytes_const (P := Tryd.prog) w 23 5 C n c Tryd.underlying23 Tryd.underlying5
  go_enter Tryd.func10, Tryd.ntmps10
  go_wp2
  clear kc
  go_region_held3 (fun w' => Sh w w') (first | exact Sh.start w HT.out | exact Sh.alloc (by assumption) _ | assumption)
    (first
      | (go_at_call 11; with_reducible refine (c1 (w := w) ?_).mono ?_; assumption; rintro e w' ⟨rfl, rfl⟩)
      | (go_at_call 11; with_reducible refine (c2 (w := w) ?_).mono ?_; assumption; rintro e w' ⟨rfl, rfl⟩)
      | (go_at_call 13; with_reducible refine (c3 (w := w) ?_).mono ?_; assumption; rintro e w' ⟨rfl, rfl⟩)
      | (go_at_call 11; with_reducible refine (c4 (tab_of (w := w) ?_)).mono ?_; assumption; rintro e w' ⟨rfl, rfl⟩)
      | (go_at_call 11; with_reducible refine (c5 _ (tab_of (w := w) ?_) ?_).mono ?_; assumption; (first | exact cn1 _ _ | exact cn2 _ _ _ | exact cn3 _ _ _ _ | exact cn4 _ _ _ _); rintro e w' ⟨rfl, rfl⟩)
      | (go_at_call 11; with_reducible refine (c6 _ (tab_of (w := w) ?_) ?_).mono ?_; assumption; (first | exact cn1 _ _ | exact cn2 _ _ _ | exact cn3 _ _ _ _ | exact cn4 _ _ _ _); rintro e w' ⟨rfl, rfl⟩))
  all_goals
    go_wp2
    go_ret
    refine ⟨rfl, below_of ?_⟩
    assumption
end Go.Proofs.YtilnakkjckfhgaaDoor
