/- The walk through the statement WeightCompares. -/
import Derived.Test.YtmcfmikpcmbmbaaLaws2
namespace Go.Proofs.Ytmcfmikpcmbmbaa
open Go.RowKit

theorem sg_int (a : Int) (h0 : 0 ≤ a) (h1 : a < 18446744073709551616) : Float.sg a.toNat = decide (9223372036854775808 ≤ a) := by
  obtain ⟨B, rfl⟩ := Int.eq_ofNat_of_zero_le h0
  unfold Float.sg
  rw [Int.toNat_natCast, Bool.eq_iff_iff, beq_iff_eq, decide_eq_true_iff]
  omega
theorem rg_int (a : Int) (h0 : 0 ≤ a) : (Float.rg a.toNat : Int) = a % 9223372036854775808 := by
  obtain ⟨B, rfl⟩ := Int.eq_ofNat_of_zero_le h0
  unfold Float.rg
  rw [Int.toNat_natCast]; omega
/-- A float's place as it compares. -/
def ky (a : Int) : Int := if 9223372036854775808 ≤ a then -(a % 9223372036854775808) else a % 9223372036854775808
theorem key_int (a : Int) (h0 : 0 ≤ a) (h1 : a < 18446744073709551616) : Float.key a.toNat = ky a := by
  unfold Float.key ky
  rw [sg_int a h0 h1, rg_int a h0]
  by_cases h : 9223372036854775808 ≤ a
  · rw [if_pos h, if_pos (by simpa using h)]
  · rw [if_neg h, if_neg (by simpa using h)]
theorem kind4 (a : Int) : kindI a = 4 ↔ 9218868437227405312 < a % 9223372036854775808 := by
  unfold kindI; split
  · simp; assumption
  · split
    · simp; omega
    · split
      · simp; omega
      · split <;> simp <;> omega
theorem kind0 (a : Int) : kindI a = 0 ↔ a % 9223372036854775808 = 0 := by
  unfold kindI; split
  · simp; omega
  · split
    · simp; omega
    · split
      · simp; omega
      · split
        · simp; omega
        · simp; omega
theorem ord_int (a b : Int) (h0 : 0 ≤ a) (h1 : a < 18446744073709551616) (h2 : 0 ≤ b) (h3 : b < 18446744073709551616) (ha : kindI a ≠ 4) (hb : kindI b ≠ 4) : FloatKind.f64.format.order a.toNat b.toNat = some (compare (ky a) (ky b)) := by
  have ra := rg_int a h0
  have rb := rg_int b h2
  rw [Ne, kind4] at ha hb
  have := Float.order_is a.toNat b.toNat (by omega) (by omega)
  rw [key_int a h0 h1, key_int b h2 h3] at this
  exact this
theorem ord_none (a b : Int) (h0 : 0 ≤ a) (h2 : 0 ≤ b) (h : kindI a = 4 ∨ kindI b = 4) : FloatKind.f64.format.order a.toNat b.toNat = none := by
  have ra := rg_int a h0
  have rb := rg_int b h2
  rw [kind4, kind4] at h
  exact Float.order_nan _ _ (by omega)

theorem compares_walk (a b : Int) (h0 : 0 ≤ a) (h1 : a < 18446744073709551616) (h2 : 0 ≤ b) (h3 : b < 18446744073709551616) (w : World) : Calls Try.prog 5 #[.int .u64 a, .int .u64 b] w fun e w' => e = .returned (.bool true) ∧ Below w.heap.size w w' := by
  have HA := Lib.hid (show 0 ≤ a ∧ a < 18446744073709551616 from ⟨h0, h1⟩)
  have HB := Lib.hid (show 0 ≤ b ∧ b < 18446744073709551616 from ⟨h2, h3⟩)
  clear h0 h1 h2 h3
  have QN := Lib.hid (ord_none a b HA.out.1 HB.out.1)
  have QO := Lib.hid (ord_int a b HA.out.1 HA.out.2 HB.out.1 HB.out.2)
  by_cases na : kindI a = 4
  · have q := QN.out (.inl na)
    have qa : (kindI a == 4) = true := by simpa using na
    clear na QN QO
    go_enter Try.func5, Try.ntmps5
    go_wp2_with (first
      | (go_at_call 11; ((with_reducible refine (shown_any _).mono ?_); rintro e w1 ⟨rfl, hb⟩; have HW := Lib.hid hb; clear hb))
      | (go_at_call 19; ((with_reducible refine (of_any a _).mono ?_); rintro e w' ⟨rfl, rfl⟩))
      | (go_at_call 19; ((with_reducible refine (of_any b _).mono ?_); rintro e w' ⟨rfl, rfl⟩))
      | (go_at_call 15; ((with_reducible refine (refKind_any a _ HA.out.1 HA.out.2).mono ?_); rintro e w' ⟨rfl, rfl⟩))
      | (go_at_call 15; ((with_reducible refine (refKind_any b _ HB.out.1 HB.out.2).mono ?_); rintro e w' ⟨rfl, rfl⟩))
      | (go_at_call 16; ((with_reducible refine (less_any a b _ HA.out.1 HA.out.2 HB.out.1 HB.out.2).mono ?_); rintro e w' ⟨rfl, rfl⟩))
      | (go_at_call 16; ((with_reducible refine (less_any b a _ HB.out.1 HB.out.2 HA.out.1 HA.out.2).mono ?_); rintro e w' ⟨rfl, rfl⟩)))
    go_ret
    exact ⟨rfl, HW.out⟩
  have qa : (kindI a == 4) = false := by simpa using na
  by_cases nb : kindI b = 4
  · have q := QN.out (.inr nb)
    have qb : (kindI b == 4) = true := by simpa using nb
    clear na nb QN QO
    go_enter Try.func5, Try.ntmps5
    go_wp2_with (first
      | (go_at_call 11; ((with_reducible refine (shown_any _).mono ?_); rintro e w1 ⟨rfl, hb⟩; have HW := Lib.hid hb; clear hb))
      | (go_at_call 19; ((with_reducible refine (of_any a _).mono ?_); rintro e w' ⟨rfl, rfl⟩))
      | (go_at_call 19; ((with_reducible refine (of_any b _).mono ?_); rintro e w' ⟨rfl, rfl⟩))
      | (go_at_call 15; ((with_reducible refine (refKind_any a _ HA.out.1 HA.out.2).mono ?_); rintro e w' ⟨rfl, rfl⟩))
      | (go_at_call 15; ((with_reducible refine (refKind_any b _ HB.out.1 HB.out.2).mono ?_); rintro e w' ⟨rfl, rfl⟩))
      | (go_at_call 16; ((with_reducible refine (less_any a b _ HA.out.1 HA.out.2 HB.out.1 HB.out.2).mono ?_); rintro e w' ⟨rfl, rfl⟩))
      | (go_at_call 16; ((with_reducible refine (less_any b a _ HB.out.1 HB.out.2 HA.out.1 HA.out.2).mono ?_); rintro e w' ⟨rfl, rfl⟩)))
    go_ret
    exact ⟨rfl, HW.out⟩
  have qb : (kindI b == 4) = false := by simpa using nb
  have q := QO.out na nb
  have KA := Lib.hid (kind0 a)
  have KB := Lib.hid (kind0 b)
  clear na nb QN QO
  rcases Int.lt_trichotomy (ky a) (ky b) with x | x | x
  · rw [Int.compare_eq_lt.2 x] at q
    have hp : pl a < pl b := by
      have ha := HA.out; have hb := HB.out
      unfold ky at x; unfold pl
      split at x <;> split at x <;> split <;> (try split) <;> omega
    have ab := less_t hp
    have ba := less_f (a := b) (b := a) (by omega)
    clear x hp
    go_enter Try.func5, Try.ntmps5
    go_wp2_with (first
      | (go_at_call 11; ((with_reducible refine (shown_any _).mono ?_); rintro e w1 ⟨rfl, hb⟩; have HW := Lib.hid hb; clear hb))
      | (go_at_call 19; ((with_reducible refine (of_any a _).mono ?_); rintro e w' ⟨rfl, rfl⟩))
      | (go_at_call 19; ((with_reducible refine (of_any b _).mono ?_); rintro e w' ⟨rfl, rfl⟩))
      | (go_at_call 15; ((with_reducible refine (refKind_any a _ HA.out.1 HA.out.2).mono ?_); rintro e w' ⟨rfl, rfl⟩))
      | (go_at_call 15; ((with_reducible refine (refKind_any b _ HB.out.1 HB.out.2).mono ?_); rintro e w' ⟨rfl, rfl⟩))
      | (go_at_call 16; ((with_reducible refine (less_any a b _ HA.out.1 HA.out.2 HB.out.1 HB.out.2).mono ?_); rintro e w' ⟨rfl, rfl⟩))
      | (go_at_call 16; ((with_reducible refine (less_any b a _ HB.out.1 HB.out.2 HA.out.1 HA.out.2).mono ?_); rintro e w' ⟨rfl, rfl⟩)))
    go_ret
    exact ⟨rfl, HW.out⟩
  · rw [Int.compare_eq_eq.2 x] at q
    by_cases e : a = b
    · subst e
      have aa := less_f (a := a) (b := a) (by omega)
      clear x
      by_cases z : kindI a = 0
      · have z1 : (kindI a == 0) = true := by simpa using z
        clear z
        go_enter Try.func5, Try.ntmps5
        go_wp2_with (first
          | (go_at_call 11; ((with_reducible refine (shown_any _).mono ?_); rintro e w1 ⟨rfl, hb⟩; have HW := Lib.hid hb; clear hb))
          | (go_at_call 19; ((with_reducible refine (of_any a _).mono ?_); rintro e w' ⟨rfl, rfl⟩))
          | (go_at_call 19; ((with_reducible refine (of_any a _).mono ?_); rintro e w' ⟨rfl, rfl⟩))
          | (go_at_call 15; ((with_reducible refine (refKind_any a _ HA.out.1 HA.out.2).mono ?_); rintro e w' ⟨rfl, rfl⟩))
          | (go_at_call 15; ((with_reducible refine (refKind_any a _ HB.out.1 HB.out.2).mono ?_); rintro e w' ⟨rfl, rfl⟩))
          | (go_at_call 16; ((with_reducible refine (less_any a a _ HA.out.1 HA.out.2 HB.out.1 HB.out.2).mono ?_); rintro e w' ⟨rfl, rfl⟩))
          | (go_at_call 16; ((with_reducible refine (less_any a a _ HB.out.1 HB.out.2 HA.out.1 HA.out.2).mono ?_); rintro e w' ⟨rfl, rfl⟩)))
        go_ret
        exact ⟨rfl, HW.out⟩
      · have z1 : (kindI a == 0) = false := by simpa using z
        clear z
        go_enter Try.func5, Try.ntmps5
        go_wp2_with (first
          | (go_at_call 11; ((with_reducible refine (shown_any _).mono ?_); rintro e w1 ⟨rfl, hb⟩; have HW := Lib.hid hb; clear hb))
          | (go_at_call 19; ((with_reducible refine (of_any a _).mono ?_); rintro e w' ⟨rfl, rfl⟩))
          | (go_at_call 19; ((with_reducible refine (of_any a _).mono ?_); rintro e w' ⟨rfl, rfl⟩))
          | (go_at_call 15; ((with_reducible refine (refKind_any a _ HA.out.1 HA.out.2).mono ?_); rintro e w' ⟨rfl, rfl⟩))
          | (go_at_call 15; ((with_reducible refine (refKind_any a _ HB.out.1 HB.out.2).mono ?_); rintro e w' ⟨rfl, rfl⟩))
          | (go_at_call 16; ((with_reducible refine (less_any a a _ HA.out.1 HA.out.2 HB.out.1 HB.out.2).mono ?_); rintro e w' ⟨rfl, rfl⟩))
          | (go_at_call 16; ((with_reducible refine (less_any a a _ HB.out.1 HB.out.2 HA.out.1 HA.out.2).mono ?_); rintro e w' ⟨rfl, rfl⟩)))
        go_ret
        exact ⟨rfl, HW.out⟩
    · have hz : a % 9223372036854775808 = 0 ∧ b % 9223372036854775808 = 0 := by
        have ha := HA.out; have hb := HB.out
        unfold ky at x
        split at x <;> split at x <;> omega
      have z1 : (kindI a == 0) = true := by simpa using KA.out.2 hz.1
      have z2 : (kindI b == 0) = true := by simpa using KB.out.2 hz.2
      have hn : (a == b) = false := by simpa using e
      have hp : pl a ≠ pl b := fun h => e (pl_inj HA.out.1 HA.out.2 HB.out.1 HB.out.2 h)
      clear x e hz
      rcases Int.lt_or_gt_of_ne hp with y | y
      · have ab := less_t y
        have ba := less_f (a := b) (b := a) (by omega)
        clear y hp
        go_enter Try.func5, Try.ntmps5
        go_wp2_with (first
          | (go_at_call 11; ((with_reducible refine (shown_any _).mono ?_); rintro e w1 ⟨rfl, hb⟩; have HW := Lib.hid hb; clear hb))
          | (go_at_call 19; ((with_reducible refine (of_any a _).mono ?_); rintro e w' ⟨rfl, rfl⟩))
          | (go_at_call 19; ((with_reducible refine (of_any b _).mono ?_); rintro e w' ⟨rfl, rfl⟩))
          | (go_at_call 15; ((with_reducible refine (refKind_any a _ HA.out.1 HA.out.2).mono ?_); rintro e w' ⟨rfl, rfl⟩))
          | (go_at_call 15; ((with_reducible refine (refKind_any b _ HB.out.1 HB.out.2).mono ?_); rintro e w' ⟨rfl, rfl⟩))
          | (go_at_call 16; ((with_reducible refine (less_any a b _ HA.out.1 HA.out.2 HB.out.1 HB.out.2).mono ?_); rintro e w' ⟨rfl, rfl⟩))
          | (go_at_call 16; ((with_reducible refine (less_any b a _ HB.out.1 HB.out.2 HA.out.1 HA.out.2).mono ?_); rintro e w' ⟨rfl, rfl⟩)))
        go_ret
        exact ⟨rfl, HW.out⟩
      · have ba := less_t y
        have ab := less_f (a := a) (b := b) (by omega)
        clear y hp
        go_enter Try.func5, Try.ntmps5
        go_wp2_with (first
          | (go_at_call 11; ((with_reducible refine (shown_any _).mono ?_); rintro e w1 ⟨rfl, hb⟩; have HW := Lib.hid hb; clear hb))
          | (go_at_call 19; ((with_reducible refine (of_any a _).mono ?_); rintro e w' ⟨rfl, rfl⟩))
          | (go_at_call 19; ((with_reducible refine (of_any b _).mono ?_); rintro e w' ⟨rfl, rfl⟩))
          | (go_at_call 15; ((with_reducible refine (refKind_any a _ HA.out.1 HA.out.2).mono ?_); rintro e w' ⟨rfl, rfl⟩))
          | (go_at_call 15; ((with_reducible refine (refKind_any b _ HB.out.1 HB.out.2).mono ?_); rintro e w' ⟨rfl, rfl⟩))
          | (go_at_call 16; ((with_reducible refine (less_any a b _ HA.out.1 HA.out.2 HB.out.1 HB.out.2).mono ?_); rintro e w' ⟨rfl, rfl⟩))
          | (go_at_call 16; ((with_reducible refine (less_any b a _ HB.out.1 HB.out.2 HA.out.1 HA.out.2).mono ?_); rintro e w' ⟨rfl, rfl⟩)))
        go_ret
        exact ⟨rfl, HW.out⟩
  · rw [Int.compare_eq_gt.2 x] at q
    have hp : pl b < pl a := by
      have ha := HA.out; have hb := HB.out
      unfold ky at x; unfold pl
      split at x <;> split at x <;> split <;> (try split) <;> omega
    have ba := less_t hp
    have ab := less_f (a := a) (b := b) (by omega)
    clear x hp
    go_enter Try.func5, Try.ntmps5
    go_wp2_with (first
      | (go_at_call 11; ((with_reducible refine (shown_any _).mono ?_); rintro e w1 ⟨rfl, hb⟩; have HW := Lib.hid hb; clear hb))
      | (go_at_call 19; ((with_reducible refine (of_any a _).mono ?_); rintro e w' ⟨rfl, rfl⟩))
      | (go_at_call 19; ((with_reducible refine (of_any b _).mono ?_); rintro e w' ⟨rfl, rfl⟩))
      | (go_at_call 15; ((with_reducible refine (refKind_any a _ HA.out.1 HA.out.2).mono ?_); rintro e w' ⟨rfl, rfl⟩))
      | (go_at_call 15; ((with_reducible refine (refKind_any b _ HB.out.1 HB.out.2).mono ?_); rintro e w' ⟨rfl, rfl⟩))
      | (go_at_call 16; ((with_reducible refine (less_any a b _ HA.out.1 HA.out.2 HB.out.1 HB.out.2).mono ?_); rintro e w' ⟨rfl, rfl⟩))
      | (go_at_call 16; ((with_reducible refine (less_any b a _ HB.out.1 HB.out.2 HA.out.1 HA.out.2).mono ?_); rintro e w' ⟨rfl, rfl⟩)))
    go_ret
    exact ⟨rfl, HW.out⟩
end Go.Proofs.Ytmcfmikpcmbmbaa
