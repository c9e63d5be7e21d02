/- The walks through the statements CrcTells, CrcGoes, CrcParts, CrcFollows. -/
import Derived.Test.YtilnakkjckfhgaaDoorShown
namespace Go.Proofs.YtilnakkjckfhgaaDoor
open Go.RowKit

theorem Bytes.below {B : Nat} {w w' : World} {A : Option Addr} {l : List Int} (h : Bytes w A l) (hb : Below B w w') (hB : w.heap.size ≤ B) : Bytes w' A l := by
  refine ⟨h.1, h.2.1, fun hp => ?_⟩
  obtain ⟨b, off, hA, hc⟩ := h.2.2 hp
  exact ⟨b, off, hA, fun i hi => (hb.cell (p := ⟨b, off + i, none⟩) (Nat.lt_of_lt_of_le (World.block_lt_of_cell? _ _ (hc i hi)) hB)).trans (hc i hi)⟩

theorem tells_walk (x : Int) (hx0 : 0 ≤ x) (hx1 : x < 4294967296) (A : Option Addr) (c : Nat) (l : List Int) (w : World) (ht : Tab w) (hl : Bytes w A l) :
    Calls Tryd.prog 3 #[.int .u32 x, .slice A l.length c] w fun e w' => e = .returned (.bool true) ∧ Below w.heap.size w w' := by
  have HT := Lib.hid ht
  have HL := Lib.hid hl
  have HX := Lib.hid (N_W hx0 hx1).symm
  clear ht hl hx0 hx1
  by_cases hlen : 2000 < l.length
  · go_enter Tryd.func3, Tryd.ntmps3
    go_wp2_with (go_at_call 10; refine (shown_any _ HT.out).mono ?_; rintro e w1 ⟨rfl, hb⟩)
    go_ret
    exact ⟨rfl, hb⟩
  · go_enter Tryd.func3, Tryd.ntmps3
    go_wp2_with (first
      | (go_at_call 10; refine (shown_any _ HT.out).mono ?_; rintro e w1 ⟨rfl, hb⟩; have HT1 := Lib.hid (HT.out.below hb HT.out.heap); have HL1 := Lib.hid (HL.out.below hb (Nat.le_refl _)); have HB := Lib.hid hb; clear hb)
      | (go_at_call 11; refine (sum_at _ _ _ l rfl _ HT1.out HL1.out).mono ?_; rintro e w' ⟨rfl, rfl⟩)
      | (go_at_call 12; refine (refSum_at _ _ _ l rfl _ HL1.out).mono ?_; rintro e w' ⟨rfl, rfl⟩)
      | (go_at_call 13; refine (more_at _ _ HX.out _ _ _ l rfl _ HT1.out HL1.out).mono ?_; rintro e w' ⟨rfl, rfl⟩)
      | (go_at_call 14; refine (refMore_at _ _ HX.out _ _ _ l rfl _ HL1.out).mono ?_; rintro e w' ⟨rfl, rfl⟩))
    go_ret
    exact ⟨rfl, HB.out⟩

theorem follows_walk (x y : Int) (hx0 : 0 ≤ x) (hx1 : x < 4294967296) (hy0 : 0 ≤ y) (hy1 : y < 4294967296) (A : Option Addr) (c : Nat) (l : List Int) (w : World) (ht : Tab w) (hl : Bytes w A l) :
    Calls Tryd.prog 9 #[.int .u32 x, .int .u32 y, .slice A l.length c] w fun e w' => e = .returned (.bool true) ∧ Below w.heap.size w w' := by
  have HT := Lib.hid ht
  have HL := Lib.hid hl
  have HX := Lib.hid (N_W hx0 hx1).symm
  have HY := Lib.hid (N_W hy0 hy1).symm
  have heq : (N (Plain.more (W x) (l.map W)) == N (Plain.more (W y) (l.map W))) = (x == y) := by
    rw [Bool.eq_iff_iff, beq_iff_eq, beq_iff_eq]
    constructor
    · intro h
      have := (Plain.more_inj _ _ _).1 (N_inj h)
      rw [HX.out, HY.out, this]
    · rintro rfl; rfl
  clear ht hl hx0 hx1 hy0 hy1
  by_cases hlen : 400 < l.length
  · go_enter Tryd.func9, Tryd.ntmps9
    go_wp2_with (go_at_call 10; refine (shown_any _ HT.out).mono ?_; rintro e w1 ⟨rfl, hb⟩)
    go_ret
    exact ⟨rfl, hb⟩
  · go_enter Tryd.func9, Tryd.ntmps9
    go_wp2_with (first
      | (go_at_call 10; refine (shown_any _ HT.out).mono ?_; rintro e w1 ⟨rfl, hb⟩; have HT1 := Lib.hid (HT.out.below hb HT.out.heap); have HL1 := Lib.hid (HL.out.below hb (Nat.le_refl _)); have HB := Lib.hid hb; clear hb)
      | (go_at_call 13; with_reducible refine (more_at x _ HX.out _ _ _ l rfl _ HT1.out HL1.out).mono ?_; rintro e w' ⟨rfl, rfl⟩)
      | (go_at_call 13; with_reducible refine (more_at y _ HY.out _ _ _ l rfl _ HT1.out HL1.out).mono ?_; rintro e w' ⟨rfl, rfl⟩))
    go_ret
    exact ⟨rfl, HB.out⟩
end Go.Proofs.YtilnakkjckfhgaaDoor
