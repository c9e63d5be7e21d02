/- The walks through the statements WeightBack, WeightTells, WeightTurned. -/
import Derived.Test.YtmcfmikpcmbmbaaShown
namespace Go.Proofs.Ytmcfmikpcmbmbaa
open Go.RowKit

theorem Words.below {B : Nat} {w w' : World} {A : Option Addr} {l : List Int} (h : Words w A l) (hb : Below B w w') (hB : w.heap.size ≤ B) : Words w' A l := by
  refine ⟨h.1, h.2.1, fun hp => ?_⟩
  obtain ⟨b, off, hA, hc⟩ := h.2.2 hp
  exact ⟨b, off, hA, fun i hi => (hb.cell (p := ⟨b, off + i, none⟩) (Nat.lt_of_lt_of_le (World.block_lt_of_cell? _ _ (hc i hi)) hB)).trans (hc i hi)⟩

theorem back_walk (b : Int) (h0 : 0 ≤ b) (h1 : b < 18446744073709551616) (w : World) : Calls Try.prog 4 #[.int .u64 b] w fun e w' => e = .returned (.bool true) ∧ Below w.heap.size w w' := by
  have hb : (max b 0 == b) = true := by simp; omega
  clear h0 h1
  go_enter Try.func4, Try.ntmps4
  go_wp2_with (first
    | (go_at_call 11; ((with_reducible refine (shown_any _).mono ?_); rintro e w1 ⟨rfl, hb⟩; have HB := Lib.hid hb; clear hb))
    | (go_at_call 19; ((with_reducible refine (of_any b _).mono ?_); rintro e w' ⟨rfl, rfl⟩))
    | (go_at_call 18; ((with_reducible refine (bits_any b.toNat _).mono ?_); rintro e w' ⟨rfl, rfl⟩)))
  go_ret
  exact ⟨rfl, HB.out⟩

theorem tells_walk (a b : Int) (h0 : 0 ≤ a) (h1 : a < 18446744073709551616) (h2 : 0 ≤ b) (h3 : b < 18446744073709551616) (A : Option Addr) (c : Nat) (l : List Int) (w : World) (hl : Words w A l) :
    Calls Try.prog 3 #[.int .u64 a, .int .u64 b, .slice A l.length c] w fun e w' => e = .returned (.bool true) ∧ Below w.heap.size w w' := by
  have HL := Lib.hid hl
  have HA := Lib.hid (show 0 ≤ a ∧ a < 18446744073709551616 from ⟨h0, h1⟩)
  have HB := Lib.hid (show 0 ≤ b ∧ b < 18446744073709551616 from ⟨h2, h3⟩)
  clear hl h0 h1 h2 h3
  by_cases hlen : 40 < l.length
  · go_enter Try.func3, Try.ntmps3
    go_wp2_with (go_at_call 11; refine (shown_any _).mono ?_; rintro e w1 ⟨rfl, hb⟩)
    go_ret
    exact ⟨rfl, hb⟩
  · go_enter Try.func3, Try.ntmps3
    go_wp2_with (first
      | (go_at_call 11; ((with_reducible refine (shown_any _).mono ?_); rintro e w1 ⟨rfl, hb⟩; have HL1 := Lib.hid (HL.out.below hb (Nat.le_refl _)); have HW := Lib.hid hb; clear hb))
      | (go_at_call 12; ((with_reducible refine (greatest_any A c l.length l rfl _ HL1.out).mono ?_); rintro e w' ⟨rfl, rfl⟩))
      | (go_at_call 13; ((with_reducible refine (refGreatest_any A c l.length l rfl _ HL1.out).mono ?_); rintro e w' ⟨rfl, rfl⟩))
      | (go_at_call 14; ((with_reducible refine (kind_any a _ HA.out.1 HA.out.2).mono ?_); rintro e w' ⟨rfl, rfl⟩))
      | (go_at_call 15; ((with_reducible refine (refKind_any a _ HA.out.1 HA.out.2).mono ?_); rintro e w' ⟨rfl, rfl⟩))
      | (go_at_call 16; ((with_reducible refine (less_any a b _ HA.out.1 HA.out.2 HB.out.1 HB.out.2).mono ?_); rintro e w' ⟨rfl, rfl⟩))
      | (go_at_call 17; ((with_reducible refine (refLess_any a b _ HA.out.1 HA.out.2 HB.out.1 HB.out.2).mono ?_); rintro e w' ⟨rfl, rfl⟩)))
    go_ret
    exact ⟨rfl, HW.out⟩

/-- A word with its sign turned. -/
def fl (b : Int) : Int := if 9223372036854775808 ≤ b then b - 9223372036854775808 else b + 9223372036854775808
attribute [irreducible] fl
theorem fl_range {b : Int} (h0 : 0 ≤ b) (h1 : b < 18446744073709551616) : 0 ≤ fl b ∧ fl b < 18446744073709551616 := by unfold fl; split <;> omega
theorem xor_top (b : Int) (h0 : 0 ≤ b) (h1 : b < 18446744073709551616) : bits .xor .u64 b 9223372036854775808 = fl b := by
  obtain ⟨B, rfl⟩ := Int.eq_ofNat_of_zero_le h0
  rw [show (9223372036854775808 : Int) = ((9223372036854775808 : Nat) : Int) from rfl, bits_xor_u64_nat B 9223372036854775808 (by omega) (by omega)]
  have e : (9223372036854775808 : Nat) = 2 ^ 63 := by decide
  unfold fl
  by_cases h : 9223372036854775808 ≤ B
  · rw [if_pos (by omega)]
    have hB : B = (B - 2 ^ 63) ^^^ 2 ^ 63 := by
      have h2 := Nat.two_pow_add_eq_or_of_lt (i := 63) (b := B - 2 ^ 63) (by omega) 1
      rw [Nat.mul_one] at h2
      have h3 : 2 ^ 63 ||| (B - 2 ^ 63) = (B - 2 ^ 63) ^^^ 2 ^ 63 := by
        apply Nat.eq_of_testBit_eq
        intro i
        rw [Nat.testBit_or, Nat.testBit_xor, Nat.testBit_two_pow]
        by_cases hi : 63 = i
        · subst hi
          rw [Nat.testBit_lt_two_pow (show B - 2 ^ 63 < 2 ^ 63 by omega)]; rfl
        · simp [hi]
      rw [← h3, ← h2]; omega
    have h4 : B ^^^ 2 ^ 63 = B - 2 ^ 63 := by
      conv => lhs; rw [hB]
      rw [Nat.xor_assoc, Nat.xor_self, Nat.xor_zero]
    rw [e, h4]; omega
  · rw [if_neg (by omega)]
    have h2 := Nat.two_pow_add_eq_or_of_lt (i := 63) (b := B) (by omega) 1
    rw [Nat.mul_one] at h2
    have h3 : 2 ^ 63 ||| B = B ^^^ 2 ^ 63 := by
      apply Nat.eq_of_testBit_eq
      intro i
      rw [Nat.testBit_or, Nat.testBit_xor, Nat.testBit_two_pow]
      by_cases hi : 63 = i
      · subst hi
        rw [Nat.testBit_lt_two_pow (show B < 2 ^ 63 by omega)]; rfl
      · simp [hi]
    rw [e, ← h3, ← h2]; omega
theorem less_fl (a b : Int) (h0 : 0 ≤ a) (h1 : a < 18446744073709551616) (h2 : 0 ≤ b) (h3 : b < 18446744073709551616) : lessB (fl b) (fl a) = lessB a b := by
  unfold lessB pl fl
  rw [Bool.eq_iff_iff, decide_eq_true_iff, decide_eq_true_iff]
  split <;> split <;> split <;> split <;> omega
theorem kind_fl (a : Int) : kindI (fl a) = kindI a := by
  have : fl a % 9223372036854775808 = a % 9223372036854775808 := by unfold fl; split <;> omega
  unfold kindI
  rw [this]

theorem turned_walk (a b : Int) (h0 : 0 ≤ a) (h1 : a < 18446744073709551616) (h2 : 0 ≤ b) (h3 : b < 18446744073709551616) (w : World) : Calls Try.prog 8 #[.int .u64 a, .int .u64 b] w fun e w' => e = .returned (.bool true) ∧ Below w.heap.size w w' := by
  have HA := Lib.hid (show 0 ≤ a ∧ a < 18446744073709551616 from ⟨h0, h1⟩)
  have HB := Lib.hid (show 0 ≤ b ∧ b < 18446744073709551616 from ⟨h2, h3⟩)
  have FA := Lib.hid (fl_range h0 h1)
  have FB := Lib.hid (fl_range h2 h3)
  have xa := xor_top a h0 h1
  have xb := xor_top b h2 h3
  have el := less_fl a b h0 h1 h2 h3
  have ek := kind_fl a
  clear h0 h1 h2 h3
  go_enter Try.func8, Try.ntmps8
  go_wp2_with (first
    | (go_at_call 11; ((with_reducible refine (shown_any _).mono ?_); rintro e w1 ⟨rfl, hb⟩; have HW := Lib.hid hb; clear hb))
    | (go_at_call 14; ((with_reducible refine (kind_any a _ HA.out.1 HA.out.2).mono ?_); rintro e w' ⟨rfl, rfl⟩))
    | (go_at_call 14; ((with_reducible refine (kind_any (fl a) _ FA.out.1 FA.out.2).mono ?_); rintro e w' ⟨rfl, rfl⟩))
    | (go_at_call 16; ((with_reducible refine (less_any a b _ HA.out.1 HA.out.2 HB.out.1 HB.out.2).mono ?_); rintro e w' ⟨rfl, rfl⟩))
    | (go_at_call 16; ((with_reducible refine (less_any (fl b) (fl a) _ FB.out.1 FB.out.2 FA.out.1 FA.out.2).mono ?_); rintro e w' ⟨rfl, rfl⟩)))
  go_ret
  exact ⟨rfl, HW.out⟩
end Go.Proofs.Ytmcfmikpcmbmbaa
