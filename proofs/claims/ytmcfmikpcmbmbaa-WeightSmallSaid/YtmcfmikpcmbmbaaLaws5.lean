/- The walk through the statement WeightSmall. -/
import Derived.Test.YtmcfmikpcmbmbaaLaws2
import Derived.Test.YtmcfmikpcmbmbaaFloat2
import Derived.Laws.FloatArith
namespace Go.Proofs.Ytmcfmikpcmbmbaa
open Go.RowKit

theorem kind_small (x : Int) (h0 : 0 ≤ x) (h1 : x < 4503599627370496) : kindI x = if 0 < x then 1 else 0 := by
  have : x % 9223372036854775808 = x := by omega
  unfold kindI
  rw [this, if_neg (by omega), if_neg (by omega), if_neg (by omega)]
theorem small_add (x y : Int) (h0 : 0 ≤ x) (h1 : x < 4503599627370496) (h2 : 0 ≤ y) (h3 : y < 4503599627370496) : ∃ n : Nat, floatBits .add .f64 x.toNat y.toNat = some n ∧ (n : Int) = x + y := by
  refine ⟨x.toNat + y.toNat, ?_, by omega⟩
  exact Float.add_small _ _ (by omega) (by omega)

theorem small_walk (a b : Int) (h0 : 0 ≤ a) (h1 : a < 18446744073709551616) (h2 : 0 ≤ b) (h3 : b < 18446744073709551616) (w : World) : Calls Try.prog 10 #[.int .u64 a, .int .u64 b] w fun e w' => e = .returned (.bool true) ∧ Below w.heap.size w w' := by
  have HX := Lib.hid (show 0 ≤ a / 8192 ∧ a / 8192 < 18446744073709551616 from by omega)
  obtain ⟨n, hf, hn⟩ := small_add (a / 8192) (b / 8192) (by omega) (by omega) (by omega) (by omega)
  have hk := kind_small (a / 8192) (by omega) (by omega)
  have hs : ((n : Int) == a / 8192 + b / 8192) = true := by simpa using hn
  have hw : a / 8192 + b / 8192 < 18446744073709551616 := by omega
  have HR := Lib.hid (fun w : World => run_float_arith (P := Try.prog) w .add 31 .f64 (a / 8192).toNat (b / 8192).toNat n hf)
  clear hn hf
  by_cases x : 0 < a / 8192
  · have HK := Lib.hid (show kindI (a / 8192) = 1 from by rw [hk, if_pos x])
    have d1 : decide (0 < a / 8192) = true := by simpa using x
    have d2 : (a / 8192 == 0) = false := by simp; omega
    clear hk x
    go_enter Try.func10, Try.ntmps10
    go_wp2_with (first
      | (go_at_call 11; ((with_reducible refine (shown_any _).mono ?_); rintro e w1 ⟨rfl, hb⟩; have HW := Lib.hid hb; clear hb))
      | (go_at_call 19; ((with_reducible refine (of_any (a / 8192) _).mono ?_); rintro e w' ⟨rfl, rfl⟩))
      | (go_at_call 19; ((with_reducible refine (of_any (b / 8192) _).mono ?_); rintro e w' ⟨rfl, rfl⟩))
      | (simp only [HR.out])
      | (go_at_call 18; ((with_reducible refine (bits_any n _).mono ?_); rintro e w' ⟨rfl, rfl⟩))
      | (go_at_call 14; ((with_reducible refine (kind_at (a / 8192) 1 HK.out _ HX.out.1 HX.out.2).mono ?_); rintro e w' ⟨rfl, rfl⟩)))
    go_ret
    exact ⟨rfl, HW.out⟩
  · have HK := Lib.hid (show kindI (a / 8192) = 0 from by rw [hk, if_neg x])
    have d1 : decide (0 < a / 8192) = false := by simpa using x
    have d2 : (a / 8192 == 0) = true := by simp; omega
    clear hk x
    go_enter Try.func10, Try.ntmps10
    go_wp2_with (first
      | (go_at_call 11; ((with_reducible refine (shown_any _).mono ?_); rintro e w1 ⟨rfl, hb⟩; have HW := Lib.hid hb; clear hb))
      | (go_at_call 19; ((with_reducible refine (of_any (a / 8192) _).mono ?_); rintro e w' ⟨rfl, rfl⟩))
      | (go_at_call 19; ((with_reducible refine (of_any (b / 8192) _).mono ?_); rintro e w' ⟨rfl, rfl⟩))
      | (simp only [HR.out])
      | (go_at_call 18; ((with_reducible refine (bits_any n _).mono ?_); rintro e w' ⟨rfl, rfl⟩))
      | (go_at_call 14; ((with_reducible refine (kind_at (a / 8192) 0 HK.out _ HX.out.1 HX.out.2).mono ?_); rintro e w' ⟨rfl, rfl⟩)))
    go_ret
    exact ⟨rfl, HW.out⟩
end Go.Proofs.Ytmcfmikpcmbmbaa
