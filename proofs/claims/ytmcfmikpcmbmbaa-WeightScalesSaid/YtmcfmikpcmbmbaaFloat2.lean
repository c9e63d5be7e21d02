/- Plain laws on floats of 64 bits: small ones add as their words do; of a usual one twice as much is one binade up. No program in sight. -/
import Derived.Test.YtmcfmikpcmbmbaaFloat
namespace Go.Proofs.Ytmcfmikpcmbmbaa.Float
open Ieee

theorem fraction_is : double.fractionBits = 52 := rfl
theorem cut_exact (neg : Bool) (n : Nat) : Toward.even.cut neg n 0 = n := by
  unfold Toward.cut
  simp [Nat.mod_one]

theorem log2_small {n : Nat} (h0 : n ≠ 0) (h : n < 9007199254740992) : n.log2 ≤ 52 := by
  have := (Nat.log2_lt h0 (k := 53)).2 (by simpa using h)
  omega
/-- A small number of least ones is written as itself. -/
theorem nearest_small (n : Nat) (h : n < 9007199254740992) : double.nearest false n (-1074) = n := by
  unfold Format.nearest
  by_cases h0 : n = 0
  · rw [if_pos h0, h0]; rfl
  · rw [if_neg h0]
    have hl := log2_small h0 h
    have e : max (-1074 + (n.log2 : Int) - double.fractionBits) double.leastPlace = -1074 := by
      rw [fraction_is, least_is]; omega
    simp only [e]
    rw [least_is, show ((-1074 : Int) - -1074).toNat = 0 from rfl, Nat.shiftLeft_zero, cut_exact, inf_is, Nat.zero_mul, Nat.zero_add]
    unfold Format.word
    simp; omega
theorem read_small (x : Nat) (h : x < 4503599627370496) : double.read x = .number false x (-1074) := by
  unfold Format.read
  simp only [sign_is, binade_is, inf_is, least_is]
  rw [Nat.mod_eq_of_lt (show x < 9223372036854775808 by omega), if_pos h, Nat.div_eq_of_lt (by omega)]
  rfl
theorem add_small (x y : Nat) (hx : x < 4503599627370496) (hy : y < 4503599627370496) : double.add x y = some (x + y) := by
  unfold Format.add
  rw [read_small x hx, read_small y hy]
  unfold Datum.sum
  simp only [Int.min_self, Int.sub_self, Int.toNat_zero]
  unfold signed
  simp only [Nat.shiftLeft_zero, Option.map_some, Bool.false_eq_true, if_false]
  unfold Format.write
  have e1 : (if ((x : Int) + (y : Int)) = 0 then (false && false) else decide ((x : Int) + (y : Int) < 0)) = false := by
    split
    · rfl
    · simp; omega
  have e2 : ((x : Int) + (y : Int)).natAbs = x + y := by omega
  simp only [e1, e2]
  rw [nearest_small _ (by omega)]
end Go.Proofs.Ytmcfmikpcmbmbaa.Float
