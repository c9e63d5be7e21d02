/- The walks through bits, floats of bits, and kinds. -/
import Derived.Test.YtmcfmikpcmbmbaaWalks
import Derived.Test.YtmcfmikpcmbmbaaFloat
import Derived.Laws.Cover2
namespace Go.Proofs.Ytmcfmikpcmbmbaa
open Go.RowKit

theorem call_of (b : Int) (w : World) : (callFunc 23 #[.int .u64 b]).run Try.prog w = .ok (.value (.float .f64 b.toNat)) w := by kernel_rfl
theorem call_bits (b : Nat) (w : World) : (callFunc 22 #[.float .f64 b]).run Try.prog w = .ok (.value (.int .u64 (b : Int))) w := by kernel_rfl
/-- weight.Of. -/
theorem of_any (b : Int) (w : World) : Calls Try.prog 19 #[.int .u64 b] w fun e w' => e = .returned (.float .f64 b.toNat) ∧ w = w' := by
  go_enter Try.func19, Try.ntmps19
  go_wp2_with (simp only [call_of b])
  go_ret
  exact ⟨rfl, rfl⟩
theorem bits_any (b : Nat) (w : World) : Calls Try.prog 18 #[.float .f64 b] w fun e w' => e = .returned (.int .u64 (b : Int)) ∧ w = w' := by
  go_enter Try.func18, Try.ntmps18
  go_wp2_with (simp only [call_bits b])
  go_ret
  exact ⟨rfl, rfl⟩

theorem andNot_top (b : Int) (h0 : 0 ≤ b) (h1 : b < 18446744073709551616) : bits .andNot .u64 b 9223372036854775808 = b % 9223372036854775808 := by
  obtain ⟨B, rfl⟩ := Int.eq_ofNat_of_zero_le h0
  rw [show (9223372036854775808 : Int) = ((9223372036854775808 : Nat) : Int) from rfl, u64_andNot_nat B 9223372036854775808 (by omega) (by omega)]
  rw [show 18446744073709551615 - 9223372036854775808 = 2 ^ 63 - 1 from rfl, Nat.and_two_pow_sub_one_eq_mod]
  omega
/-- What kind a float is, by its rung. -/
def kindI (b : Int) : Int := if 9218868437227405312 < b % 9223372036854775808 then 4 else if b % 9223372036854775808 = 9218868437227405312 then 3 else if 4503599627370496 ≤ b % 9223372036854775808 then 2 else if 0 < b % 9223372036854775808 then 1 else 0
attribute [irreducible] kindI

theorem rg_of {r : Int} (h0 : 0 ≤ r) (h1 : r < 9223372036854775808) : Float.rg r.toNat = r.toNat ∧ Float.sg r.toNat = false := by
  unfold Float.rg Float.sg
  constructor
  · omega
  · have : r.toNat / 9223372036854775808 = 0 := by omega
    rw [this]; rfl
theorem key_of {r : Int} (h0 : 0 ≤ r) (h1 : r < 9223372036854775808) : Float.key r.toNat = r := by
  unfold Float.key
  rw [(rg_of h0 h1).2, (rg_of h0 h1).1]; simp; omega
theorem ord_of {r s : Int} (h0 : 0 ≤ r) (h1 : r ≤ 9218868437227405312) (h2 : 0 ≤ s) (h3 : s ≤ 9218868437227405312) : FloatKind.f64.format.order r.toNat s.toNat = some (compare r s) := by
  have := Float.order_is r.toNat s.toNat (by rw [(rg_of h0 (by omega)).1]; omega) (by rw [(rg_of h2 (by omega)).1]; omega)
  rw [key_of h0 (by omega), key_of h2 (by omega)] at this
  exact this

set_option maxHeartbeats 800000 in
/-- weight.Kind. -/
theorem kind_any (b : Int) (w : World) (h0 : 0 ≤ b) (h1 : b < 18446744073709551616) : Calls Try.prog 14 #[.int .u64 b] w fun e w' => e = .returned (.int .i64 (kindI b)) ∧ w = w' := by
  have ha := andNot_top b h0 h1
  have hr0 : 0 ≤ b % 9223372036854775808 := by omega
  have hr1 : b % 9223372036854775808 < 9223372036854775808 := by omega
  have HK : Hid (kindI b = if 9218868437227405312 < b % 9223372036854775808 then 4 else if b % 9223372036854775808 = 9218868437227405312 then 3 else if 4503599627370496 ≤ b % 9223372036854775808 then 2 else if 0 < b % 9223372036854775808 then 1 else 0) := by show _ = _; unfold kindI; rfl
  clear h0 h1
  generalize b % 9223372036854775808 = r at ha hr0 hr1 HK
  by_cases c4 : 9218868437227405312 < r
  · have q1 : FloatKind.f64.format.order r.toNat r.toNat = none := Float.order_nan _ _ (.inl (by rw [(rg_of hr0 hr1).1]; omega))
    have HV := Lib.hid (show kindI b = 4 from by rw [HK.out, if_pos c4])
    clear hr0 hr1 c4
    go_enter Try.func14, Try.ntmps14
    go_wp2_with (go_at_call 19; ((with_reducible refine (of_any r _).mono ?_); rintro e w' ⟨rfl, rfl⟩))
    go_ret
    exact ⟨by rw [HV.out]; rfl, rfl⟩
  have e1 : FloatKind.f64.format.order r.toNat r.toNat = some .eq := by rw [ord_of hr0 (by omega) hr0 (by omega), Int.compare_eq_eq.2 rfl]
  by_cases c3 : r = 9218868437227405312
  · have e2 : FloatKind.f64.format.order r.toNat 9218868437227405311 = some .gt := by rw [show (9218868437227405311 : Nat) = (9218868437227405311 : Int).toNat from rfl, ord_of hr0 (by omega) (by decide) (by decide), Int.compare_eq_gt.2 (by omega)]
    have HV := Lib.hid (show kindI b = 3 from by rw [HK.out, if_neg c4, if_pos c3])
    clear hr0 hr1 c4 c3
    go_enter Try.func14, Try.ntmps14
    go_wp2_with (go_at_call 19; ((with_reducible refine (of_any r _).mono ?_); rintro e w' ⟨rfl, rfl⟩))
    go_ret
    exact ⟨by rw [HV.out]; rfl, rfl⟩
  have e2 : (FloatKind.f64.format.order r.toNat 9218868437227405311 == some .gt) = false := by
    rw [show (9218868437227405311 : Nat) = (9218868437227405311 : Int).toNat from rfl, ord_of hr0 (by omega) (by decide) (by decide)]
    rcases Int.lt_trichotomy r 9218868437227405311 with h | h | h
    · rw [Int.compare_eq_lt.2 h]; rfl
    · rw [Int.compare_eq_eq.2 h]; rfl
    · omega
  by_cases c2 : 4503599627370496 ≤ r
  · have HV := Lib.hid (show kindI b = 2 from by rw [HK.out, if_neg c4, if_neg c3, if_pos c2])
    by_cases c5 : r = 4503599627370496
    · have e3 : FloatKind.f64.format.order r.toNat 4503599627370496 = some .eq := by rw [show (4503599627370496 : Nat) = (4503599627370496 : Int).toNat from rfl, ord_of hr0 (by omega) (by decide) (by decide), Int.compare_eq_eq.2 c5]
      clear hr0 hr1 c4 c3 c2 c5
      go_enter Try.func14, Try.ntmps14
      go_wp2_with (go_at_call 19; ((with_reducible refine (of_any r _).mono ?_); rintro e w' ⟨rfl, rfl⟩))
      go_ret
      exact ⟨by rw [HV.out]; rfl, rfl⟩
    · have e3 : FloatKind.f64.format.order r.toNat 4503599627370496 = some .gt := by rw [show (4503599627370496 : Nat) = (4503599627370496 : Int).toNat from rfl, ord_of hr0 (by omega) (by decide) (by decide), Int.compare_eq_gt.2 (by omega)]
      clear hr0 hr1 c4 c3 c2 c5
      go_enter Try.func14, Try.ntmps14
      go_wp2_with (go_at_call 19; ((with_reducible refine (of_any r _).mono ?_); rintro e w' ⟨rfl, rfl⟩))
      go_ret
      exact ⟨by rw [HV.out]; rfl, rfl⟩
  have e3 : FloatKind.f64.format.order r.toNat 4503599627370496 = some .lt := by rw [show (4503599627370496 : Nat) = (4503599627370496 : Int).toNat from rfl, ord_of hr0 (by omega) (by decide) (by decide), Int.compare_eq_lt.2 (by omega)]
  by_cases c1 : 0 < r
  · have e4 : FloatKind.f64.format.order r.toNat 0 = some .gt := by rw [show (0 : Nat) = (0 : Int).toNat from rfl, ord_of hr0 (by omega) (by decide) (by decide), Int.compare_eq_gt.2 (by omega)]
    have HV := Lib.hid (show kindI b = 1 from by rw [HK.out, if_neg c4, if_neg c3, if_neg c2, if_pos c1])
    clear hr0 hr1 c4 c3 c2 c1
    go_enter Try.func14, Try.ntmps14
    go_wp2_with (go_at_call 19; ((with_reducible refine (of_any r _).mono ?_); rintro e w' ⟨rfl, rfl⟩))
    go_ret
    exact ⟨by rw [HV.out]; rfl, rfl⟩
  · have e4 : FloatKind.f64.format.order r.toNat 0 = some .eq := by rw [show (0 : Nat) = (0 : Int).toNat from rfl, ord_of hr0 (by omega) (by decide) (by decide), Int.compare_eq_eq.2 (by omega)]
    have HV := Lib.hid (show kindI b = 0 from by rw [HK.out, if_neg c4, if_neg c3, if_neg c2, if_neg c1])
    clear hr0 hr1 c4 c3 c2 c1
    go_enter Try.func14, Try.ntmps14
    go_wp2_with (go_at_call 19; ((with_reducible refine (of_any r _).mono ?_); rintro e w' ⟨rfl, rfl⟩))
    go_ret
    exact ⟨by rw [HV.out]; rfl, rfl⟩
/-- wealdref02.Kind. -/
theorem refKind_any (b : Int) (w : World) (h0 : 0 ≤ b) (h1 : b < 18446744073709551616) : Calls Try.prog 15 #[.int .u64 b] w fun e w' => e = .returned (.int .i64 (kindI b)) ∧ w = w' := by
  have HK : Hid (kindI b = if b / 4503599627370496 % 2048 = 2047 then (if 0 < b % 4503599627370496 then 4 else 3) else if 0 < b / 4503599627370496 % 2048 then 2 else if 0 < b % 4503599627370496 then 1 else 0) := by
    show _ = _
    unfold kindI
    split <;> split <;> (try split) <;> (try split) <;> (try split) <;> (try split) <;> omega
  by_cases c1 : b / 4503599627370496 % 2048 = 2047 <;> by_cases c2 : 0 < b % 4503599627370496
  · have HV := Lib.hid (show kindI b = 4 from by rw [HK.out, if_pos c1, if_pos c2])
    have e1 : (b / 4503599627370496 % 2048 == 2047) = true := by simpa using c1
    have e2 : decide (0 < b % 4503599627370496) = true := by simpa using c2
    clear c1 c2
    go_enter Try.func15, Try.ntmps15
    go_wp2
    go_ret
    exact ⟨by rw [HV.out]; rfl, rfl⟩
  · have HV := Lib.hid (show kindI b = 3 from by rw [HK.out, if_pos c1, if_neg c2])
    have e1 : (b / 4503599627370496 % 2048 == 2047) = true := by simpa using c1
    have e2 : decide (0 < b % 4503599627370496) = false := by simpa using c2
    clear c1 c2
    go_enter Try.func15, Try.ntmps15
    go_wp2
    go_ret
    exact ⟨by rw [HV.out]; rfl, rfl⟩
  all_goals have e1 : (b / 4503599627370496 % 2048 == 2047) = false := by simpa using c1
  all_goals by_cases c3 : 0 < b / 4503599627370496 % 2048
  · have HV := Lib.hid (show kindI b = 2 from by rw [HK.out, if_neg c1, if_pos c3])
    have e2 : decide (0 < b / 4503599627370496 % 2048) = true := by simpa using c3
    clear c1 c2 c3
    go_enter Try.func15, Try.ntmps15
    go_wp2
    go_ret
    exact ⟨by rw [HV.out]; rfl, rfl⟩
  · have HV := Lib.hid (show kindI b = 1 from by rw [HK.out, if_neg c1, if_neg c3, if_pos c2])
    have e2 : decide (0 < b / 4503599627370496 % 2048) = false := by simpa using c3
    have e3 : decide (0 < b % 4503599627370496) = true := by simpa using c2
    clear c1 c2 c3
    go_enter Try.func15, Try.ntmps15
    go_wp2
    go_ret
    exact ⟨by rw [HV.out]; rfl, rfl⟩
  · have HV := Lib.hid (show kindI b = 2 from by rw [HK.out, if_neg c1, if_pos c3])
    have e2 : decide (0 < b / 4503599627370496 % 2048) = true := by simpa using c3
    clear c1 c2 c3
    go_enter Try.func15, Try.ntmps15
    go_wp2
    go_ret
    exact ⟨by rw [HV.out]; rfl, rfl⟩
  · have HV := Lib.hid (show kindI b = 0 from by rw [HK.out, if_neg c1, if_neg c3, if_neg c2])
    have e2 : decide (0 < b / 4503599627370496 % 2048) = false := by simpa using c3
    have e3 : decide (0 < b % 4503599627370496) = false := by simpa using c2
    clear c1 c2 c3
    go_enter Try.func15, Try.ntmps15
    go_wp2
    go_ret
    exact ⟨by rw [HV.out]; rfl, rfl⟩
end Go.Proofs.Ytmcfmikpcmbmbaa
