/- The walk through the statement WeightScales. -/
import Derived.Test.YtmcfmikpcmbmbaaLaws3
import Derived.Test.YtmcfmikpcmbmbaaFloat3
import Derived.Laws.FloatArith
namespace Go.Proofs.Ytmcfmikpcmbmbaa
open Go.RowKit

theorem kind2 (a : Int) : kindI a = 2 ↔ 4503599627370496 ≤ a % 9223372036854775808 ∧ a % 9223372036854775808 < 9218868437227405312 := by
  unfold kindI; split
  · simp; omega
  · split
    · simp; omega
    · split
      · simp; omega
      · split <;> simp <;> omega
theorem neg_is (b : Int) (h0 : 0 ≤ b) (h1 : b < 18446744073709551616) : Op.negFloat .f64 b.toNat = (fl b).toNat := by
  have h := xor_top b h0 h1
  obtain ⟨B, rfl⟩ := Int.eq_ofNat_of_zero_le h0
  rw [show (9223372036854775808 : Int) = ((9223372036854775808 : Nat) : Int) from rfl, bits_xor_u64_nat B 9223372036854775808 (by omega) (by omega)] at h
  rw [← h]; rfl
theorem neg_run (b : Int) (h0 : 0 ≤ b) (h1 : b < 18446744073709551616) (w : World) : (Op.unary .neg (.float .f64 b.toNat)).run Try.prog w = .ok (.float .f64 (fl b).toNat) w := by
  rw [← neg_is b h0 h1]; rfl
theorem twice (b : Int) (h0 : 0 ≤ b) (h1 : b < 18446744073709551616) (hk : kindI b = 2) (hc : b + 4503599627370496 < 18446744073709551616) (hk2 : kindI (b + 4503599627370496) = 2) :
    floatBits .mul .f64 4611686018427387904 b.toNat = some (b + 4503599627370496).toNat := by
  rw [kind2] at hk hk2
  have hr := rg_int b h0
  have := Float.mul_two b.toNat (by omega) (by omega) (by omega)
  rw [show (b + 4503599627370496).toNat = b.toNat + 4503599627370496 from by omega]
  exact this

theorem scales_walk (b : Int) (h0 : 0 ≤ b) (h1 : b < 18446744073709551616) (w : World) : Calls Try.prog 6 #[.int .u64 b] w fun e w' => e = .returned (.bool true) ∧ Below w.heap.size w w' := by
  have HB := Lib.hid (show 0 ≤ b ∧ b < 18446744073709551616 from ⟨h0, h1⟩)
  by_cases k : kindI b = 2
  · have kb := (kind2 b).1 k
    have hc : b + 4503599627370496 < 18446744073709551616 := by omega
    have k1 : (kindI b == 2) = true := by simpa using k
    have k1' : (kindI b != 2) = false := by simpa using k
    have HC := Lib.hid (show 0 ≤ b + 4503599627370496 ∧ b + 4503599627370496 < 18446744073709551616 from by omega)
    by_cases k2 : kindI (b + 4503599627370496) = 2
    · have hm := twice b h0 h1 k hc k2
      have o1 := ord_int (b + 4503599627370496) (b + 4503599627370496) (by omega) (by omega) (by omega) (by omega) (by rw [k2]; decide) (by rw [k2]; decide)
      rw [Int.compare_eq_eq.2 rfl] at o1
      have fr := fl_range h0 h1
      have kf := kind_fl b
      have o2 := ord_int (fl b) (fl b) fr.1 fr.2 fr.1 fr.2 (by rw [kf, k]; decide) (by rw [kf, k]; decide)
      rw [Int.compare_eq_eq.2 rfl] at o2
      have hx := xor_top b h0 h1
      have HU := Lib.hid (neg_run b h0 h1)
      have HM := Lib.hid (fun w : World => run_float_arith (P := Try.prog) w .mul 31 .f64 4611686018427387904 b.toNat _ hm)
      have k3 : (kindI (b + 4503599627370496) != 2) = false := by simpa using k2
      have k3' : (kindI (b + 4503599627370496) == 2) = true := by simpa using k2
      clear kb kf fr hm k k2
      go_enter Try.func6, Try.ntmps6
      go_wp2_with (first
        | (go_at_call 11; ((with_reducible refine (shown_any _).mono ?_); rintro e w1 ⟨rfl, hb⟩; have HW := Lib.hid hb; clear hb))
        | (go_at_call 15; ((with_reducible refine (refKind_any b _ HB.out.1 HB.out.2).mono ?_); rintro e w' ⟨rfl, rfl⟩))
        | (go_at_call 15; ((with_reducible refine (refKind_any (b + 4503599627370496) _ HC.out.1 HC.out.2).mono ?_); rintro e w' ⟨rfl, rfl⟩))
        | (go_at_call 19; ((with_reducible refine (of_any b _).mono ?_); rintro e w' ⟨rfl, rfl⟩))
        | (go_at_call 19; ((with_reducible refine (of_any (b + 4503599627370496) _).mono ?_); rintro e w' ⟨rfl, rfl⟩))
        | (go_at_call 19; ((with_reducible refine (of_any (fl b) _).mono ?_); rintro e w' ⟨rfl, rfl⟩))
        | (simp only [HM.out])
        | (simp only [HU.out]))
      go_ret
      exact ⟨rfl, HW.out⟩
    · have k3 : (kindI (b + 4503599627370496) != 2) = true := by simpa using k2
      have k3' : (kindI (b + 4503599627370496) == 2) = false := by simpa using k2
      clear kb k k2
      go_enter Try.func6, Try.ntmps6
      go_wp2_with (first
        | (go_at_call 11; ((with_reducible refine (shown_any _).mono ?_); rintro e w1 ⟨rfl, hb⟩; have HW := Lib.hid hb; clear hb))
        | (go_at_call 15; ((with_reducible refine (refKind_any b _ HB.out.1 HB.out.2).mono ?_); rintro e w' ⟨rfl, rfl⟩))
        | (go_at_call 15; ((with_reducible refine (refKind_any (b + 4503599627370496) _ HC.out.1 HC.out.2).mono ?_); rintro e w' ⟨rfl, rfl⟩)))
      go_ret
      exact ⟨rfl, HW.out⟩
  · have k1 : (kindI b == 2) = false := by simpa using k
    have k1' : (kindI b != 2) = true := by simpa using k
    clear k
    by_cases hc : b + 4503599627370496 < 18446744073709551616
    · go_enter Try.func6, Try.ntmps6
      go_wp2_with (first
        | (go_at_call 11; ((with_reducible refine (shown_any _).mono ?_); rintro e w1 ⟨rfl, hb⟩; have HW := Lib.hid hb; clear hb))
        | (go_at_call 15; ((with_reducible refine (refKind_any b _ HB.out.1 HB.out.2).mono ?_); rintro e w' ⟨rfl, rfl⟩)))
      go_ret
      exact ⟨rfl, HW.out⟩
    · go_enter Try.func6, Try.ntmps6
      go_wp2_with (first
        | (go_at_call 11; ((with_reducible refine (shown_any _).mono ?_); rintro e w1 ⟨rfl, hb⟩; have HW := Lib.hid hb; clear hb))
        | (go_at_call 15; ((with_reducible refine (refKind_any b _ HB.out.1 HB.out.2).mono ?_); rintro e w' ⟨rfl, rfl⟩)))
      go_ret
      exact ⟨rfl, HW.out⟩
end Go.Proofs.Ytmcfmikpcmbmbaa
