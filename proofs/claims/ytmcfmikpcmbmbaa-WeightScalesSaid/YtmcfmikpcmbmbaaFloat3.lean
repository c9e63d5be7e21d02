/- A plain law on floats of 64 bits: twice a usual one is one binade up. No program in sight. -/
import Derived.Test.YtmcfmikpcmbmbaaFloat2
namespace Go.Proofs.Ytmcfmikpcmbmbaa.Float
open Ieee

theorem read_two : double.read 4611686018427387904 = .number false 4503599627370496 (-51) := by decide
theorem read_usual (x : Nat) (h1 : 4503599627370496 ≤ rg x) (h2 : rg x < 9218868437227405312) : double.read x = .number (sg x) (4503599627370496 + rg x % 4503599627370496) (-1074 + ((rg x / 4503599627370496 - 1 : Nat) : Int)) := by
  unfold Format.read
  simp only [sign_is, binade_is, inf_is, least_is]
  change (if rg x < 4503599627370496 then _ else if rg x < 9218868437227405312 then _ else _) = _
  rw [if_neg (by omega), if_pos h2]
  rfl
theorem log2_two (m : Nat) (h1 : 4503599627370496 ≤ m) (h2 : m < 9007199254740992) : (4503599627370496 * m).log2 = 104 := by
  have h0 : 4503599627370496 * m ≠ 0 := by omega
  have a := (Nat.log2_lt h0 (k := 105)).2 (by omega)
  have b := (Nat.le_log2 h0 (k := 104)).2 (by omega)
  omega
theorem cut_two (neg : Bool) (m : Nat) (h1 : 4503599627370496 ≤ m) (h2 : m < 9007199254740992) : Toward.even.cut neg (4503599627370496 * m) 52 = m := by
  unfold Toward.cut
  rw [log2_two m h1 h2]
  have e : (1 <<< min 52 (104 + 2) : Nat) = 4503599627370496 := by decide
  simp only [e]
  rw [Nat.mul_div_cancel_left m (by omega), Nat.mul_mod_right]
  simp
theorem nearest_two (neg : Bool) (m e : Nat) (h1 : 4503599627370496 ≤ m) (h2 : m < 9007199254740992) (h3 : (e + 1) * 4503599627370496 + m < 9218868437227405312) :
    double.nearest neg (4503599627370496 * m) (-51 + (-1074 + (e : Int))) = double.word neg ((e + 1) * 4503599627370496 + m) := by
  unfold Format.nearest
  rw [if_neg (by omega), log2_two m h1 h2]
  have el : max (-51 + (-1074 + (e : Int)) + ((104 : Nat) : Int) - double.fractionBits) double.leastPlace = -1074 + (e + 1) := by
    rw [fraction_is, least_is]; omega
  simp only [el]
  rw [least_is, binade_is, inf_is, show (-51 + (-1074 + (e : Int)) - (-1074 + (e + 1))).toNat = 0 from by omega, show (-1074 + ((e : Int) + 1) - (-51 + (-1074 + e))).toNat = 52 from by omega,
    Nat.shiftLeft_zero, cut_two neg m h1 h2, show (-1074 + ((e : Int) + 1) - -1074).toNat = e + 1 from by omega, Nat.min_eq_left (by omega)]
theorem mul_two (x : Nat) (hx : x < 18446744073709551616) (h1 : 4503599627370496 ≤ rg x) (h2 : rg x + 4503599627370496 < 9218868437227405312) : double.mul 4611686018427387904 x = some (x + 4503599627370496) := by
  unfold Format.mul
  rw [read_two, read_usual x h1 (by omega)]
  unfold Datum.product
  simp only [Option.map_some]
  unfold Format.write
  simp only
  rw [nearest_two _ _ _ (by omega) (by omega) (by omega)]
  congr 1
  unfold Format.word
  rw [sign_is, Bool.false_xor]
  have hr : rg x = x % 9223372036854775808 := rfl
  by_cases hs : sg x = true
  · rw [if_pos hs]
    unfold sg at hs
    rw [beq_iff_eq] at hs
    omega
  · rw [if_neg hs]
    unfold sg at hs
    rw [beq_iff_eq] at hs
    omega
end Go.Proofs.Ytmcfmikpcmbmbaa.Float
