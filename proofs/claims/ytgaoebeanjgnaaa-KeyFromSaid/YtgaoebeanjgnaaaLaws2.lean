/- The walk through the statement KeyFrom. -/
import Derived.Test.YtgaoebeanjgnaaaLaws1
namespace Go.Proofs.Ytgaoebeanjgnaaa
open Go.RowKit

set_option maxHeartbeats 800000 in
theorem from_walk (k u : Int) (w : World) (h0 : 0 ≤ k) (h1 : k < 18446744073709551616) (hu0 : -9223372036854775808 ≤ u) (hu1 : u ≤ 9223372036854775807) :
    Calls Try.prog 7 #[.int .u64 k, .int .i64 u] w fun e w' => e = .returned (.bool true) ∧ w = w' := by
  have HK := Lib.hid (show 0 ≤ k ∧ k < 18446744073709551616 from ⟨h0, h1⟩)
  clear h0 h1
  by_cases hk : Key k
  · have HR := Lib.hid hk
    clear hk
    by_cases hy : 1 ≤ k % 2147483648
    · have HY := Lib.hid hy
      have hy1 : 0 ≤ k % 2147483648 - 1 := by omega
      clear hy
      by_cases hu : 0 ≤ u ∧ u < 1073741824
      · by_cases hv : u + 1 < 1073741824
        · have HU := Lib.hid hu
          have HV := Lib.hid (show 0 ≤ u + 1 ∧ u + 1 < 1073741824 from by omega)
          obtain ⟨hu2, hu3⟩ := hu
          by_cases q1 : k ≤ u * 2147483648
          · have Q1 : decide (k ≤ u * 2147483648) = true := by simpa using q1
            go_enter Try.func7, Try.ntmps7
            go_wp2_with (first
              | (go_at_call 9; ((with_reducible refine (shown_any _).mono ?_); rintro e w' ⟨rfl, rfl⟩))
              | (go_at_call 15; ((with_reducible refine (kr_yes k _ HK.out.1 HK.out.2 HR.out).mono ?_); rintro e w' ⟨rfl, rfl⟩))
              | (go_at_call 16; ((with_reducible refine (ks_any k _ HK.out.1 HK.out.2).mono ?_); rintro e w' ⟨rfl, rfl⟩))
              | (go_at_call 10; ((with_reducible refine (kv_part k _ HK.out.1 HR.out).mono ?_); rintro e w' ⟨rfl, rfl⟩))
              | (go_at_call 12; ((with_reducible refine (ke_back k _ HK.out.1 HR.out HY.out).mono ?_); rintro e w' ⟨rfl, rfl⟩))
              | (go_at_call 18; ((with_reducible refine (is_yes u _ HU.out.1 HU.out.2).mono ?_); rintro e w' ⟨rfl, rfl⟩))
              | (go_at_call 18; ((with_reducible refine (is_yes (u + 1) _ HV.out.1 HV.out.2).mono ?_); rintro e w' ⟨rfl, rfl⟩))
              | (go_at_call 10; ((with_reducible refine (kv_yes u _ HU.out.1 HU.out.2).mono ?_); rintro e w' ⟨rfl, rfl⟩))
              | (go_at_call 10; ((with_reducible refine (kv_yes (u + 1) _ HV.out.1 HV.out.2).mono ?_); rintro e w' ⟨rfl, rfl⟩)))
            go_ret
            exact ⟨rfl, rfl⟩
          have Q1 : decide (k ≤ u * 2147483648) = false := by simpa using q1
          by_cases q2 : (u + 1) * 2147483648 ≤ k
          · have Q2 : decide ((u + 1) * 2147483648 ≤ k) = true := by simpa using q2
            go_enter Try.func7, Try.ntmps7
            go_wp2_with (first
              | (go_at_call 9; ((with_reducible refine (shown_any _).mono ?_); rintro e w' ⟨rfl, rfl⟩))
              | (go_at_call 15; ((with_reducible refine (kr_yes k _ HK.out.1 HK.out.2 HR.out).mono ?_); rintro e w' ⟨rfl, rfl⟩))
              | (go_at_call 16; ((with_reducible refine (ks_any k _ HK.out.1 HK.out.2).mono ?_); rintro e w' ⟨rfl, rfl⟩))
              | (go_at_call 10; ((with_reducible refine (kv_part k _ HK.out.1 HR.out).mono ?_); rintro e w' ⟨rfl, rfl⟩))
              | (go_at_call 12; ((with_reducible refine (ke_back k _ HK.out.1 HR.out HY.out).mono ?_); rintro e w' ⟨rfl, rfl⟩))
              | (go_at_call 18; ((with_reducible refine (is_yes u _ HU.out.1 HU.out.2).mono ?_); rintro e w' ⟨rfl, rfl⟩))
              | (go_at_call 18; ((with_reducible refine (is_yes (u + 1) _ HV.out.1 HV.out.2).mono ?_); rintro e w' ⟨rfl, rfl⟩))
              | (go_at_call 10; ((with_reducible refine (kv_yes u _ HU.out.1 HU.out.2).mono ?_); rintro e w' ⟨rfl, rfl⟩))
              | (go_at_call 10; ((with_reducible refine (kv_yes (u + 1) _ HV.out.1 HV.out.2).mono ?_); rintro e w' ⟨rfl, rfl⟩)))
            go_ret
            exact ⟨rfl, rfl⟩
          · have Q2 : decide ((u + 1) * 2147483648 ≤ k) = false := by simpa using q2
            have q3 : (k / 2147483648 == u) = true := by simp; omega
            go_enter Try.func7, Try.ntmps7
            go_wp2_with (first
              | (go_at_call 9; ((with_reducible refine (shown_any _).mono ?_); rintro e w' ⟨rfl, rfl⟩))
              | (go_at_call 15; ((with_reducible refine (kr_yes k _ HK.out.1 HK.out.2 HR.out).mono ?_); rintro e w' ⟨rfl, rfl⟩))
              | (go_at_call 16; ((with_reducible refine (ks_any k _ HK.out.1 HK.out.2).mono ?_); rintro e w' ⟨rfl, rfl⟩))
              | (go_at_call 10; ((with_reducible refine (kv_part k _ HK.out.1 HR.out).mono ?_); rintro e w' ⟨rfl, rfl⟩))
              | (go_at_call 12; ((with_reducible refine (ke_back k _ HK.out.1 HR.out HY.out).mono ?_); rintro e w' ⟨rfl, rfl⟩))
              | (go_at_call 18; ((with_reducible refine (is_yes u _ HU.out.1 HU.out.2).mono ?_); rintro e w' ⟨rfl, rfl⟩))
              | (go_at_call 18; ((with_reducible refine (is_yes (u + 1) _ HV.out.1 HV.out.2).mono ?_); rintro e w' ⟨rfl, rfl⟩))
              | (go_at_call 10; ((with_reducible refine (kv_yes u _ HU.out.1 HU.out.2).mono ?_); rintro e w' ⟨rfl, rfl⟩))
              | (go_at_call 10; ((with_reducible refine (kv_yes (u + 1) _ HV.out.1 HV.out.2).mono ?_); rintro e w' ⟨rfl, rfl⟩)))
            go_ret
            exact ⟨rfl, rfl⟩
        · have HU := Lib.hid hu
          have HV := Lib.hid (show u + 1 < 0 ∨ 1073741824 ≤ u + 1 from by omega)
          obtain ⟨hu2, hu3⟩ := hu
          go_enter Try.func7, Try.ntmps7
          go_wp2_with (first
            | (go_at_call 9; ((with_reducible refine (shown_any _).mono ?_); rintro e w' ⟨rfl, rfl⟩))
            | (go_at_call 15; ((with_reducible refine (kr_yes k _ HK.out.1 HK.out.2 HR.out).mono ?_); rintro e w' ⟨rfl, rfl⟩))
            | (go_at_call 16; ((with_reducible refine (ks_any k _ HK.out.1 HK.out.2).mono ?_); rintro e w' ⟨rfl, rfl⟩))
            | (go_at_call 10; ((with_reducible refine (kv_part k _ HK.out.1 HR.out).mono ?_); rintro e w' ⟨rfl, rfl⟩))
            | (go_at_call 12; ((with_reducible refine (ke_back k _ HK.out.1 HR.out HY.out).mono ?_); rintro e w' ⟨rfl, rfl⟩))
            | (go_at_call 18; ((with_reducible refine (is_yes u _ HU.out.1 HU.out.2).mono ?_); rintro e w' ⟨rfl, rfl⟩))
            | (go_at_call 18; ((with_reducible refine (is_no (u + 1) _ HV.out).mono ?_); rintro e w' ⟨rfl, rfl⟩)))
          go_ret
          exact ⟨rfl, rfl⟩
      · have HU := Lib.hid (show u < 0 ∨ 1073741824 ≤ u from by omega)
        clear hu
        go_enter Try.func7, Try.ntmps7
        go_wp2_with (first
          | (go_at_call 9; ((with_reducible refine (shown_any _).mono ?_); rintro e w' ⟨rfl, rfl⟩))
          | (go_at_call 15; ((with_reducible refine (kr_yes k _ HK.out.1 HK.out.2 HR.out).mono ?_); rintro e w' ⟨rfl, rfl⟩))
          | (go_at_call 16; ((with_reducible refine (ks_any k _ HK.out.1 HK.out.2).mono ?_); rintro e w' ⟨rfl, rfl⟩))
          | (go_at_call 10; ((with_reducible refine (kv_part k _ HK.out.1 HR.out).mono ?_); rintro e w' ⟨rfl, rfl⟩))
          | (go_at_call 12; ((with_reducible refine (ke_back k _ HK.out.1 HR.out HY.out).mono ?_); rintro e w' ⟨rfl, rfl⟩))
          | (go_at_call 18; ((with_reducible refine (is_no u _ HU.out).mono ?_); rintro e w' ⟨rfl, rfl⟩)))
        go_ret
        exact ⟨rfl, rfl⟩
    · have HY := Lib.hid (show k % 2147483648 = 0 from by omega)
      have hy1 : k % 2147483648 - 1 < 0 := by omega
      clear hy
      by_cases hu : 0 ≤ u ∧ u < 1073741824
      · by_cases hv : u + 1 < 1073741824
        · have HU := Lib.hid hu
          have HV := Lib.hid (show 0 ≤ u + 1 ∧ u + 1 < 1073741824 from by omega)
          obtain ⟨hu2, hu3⟩ := hu
          by_cases q1 : k ≤ u * 2147483648
          · have Q1 : decide (k ≤ u * 2147483648) = true := by simpa using q1
            go_enter Try.func7, Try.ntmps7
            go_wp2_with (first
              | (go_at_call 9; ((with_reducible refine (shown_any _).mono ?_); rintro e w' ⟨rfl, rfl⟩))
              | (go_at_call 15; ((with_reducible refine (kr_yes k _ HK.out.1 HK.out.2 HR.out).mono ?_); rintro e w' ⟨rfl, rfl⟩))
              | (go_at_call 16; ((with_reducible refine (ks_any k _ HK.out.1 HK.out.2).mono ?_); rintro e w' ⟨rfl, rfl⟩))
              | (go_at_call 10; ((with_reducible refine (kv_back k _ HK.out.1 HR.out HY.out).mono ?_); rintro e w' ⟨rfl, rfl⟩))
              | (go_at_call 18; ((with_reducible refine (is_yes u _ HU.out.1 HU.out.2).mono ?_); rintro e w' ⟨rfl, rfl⟩))
              | (go_at_call 18; ((with_reducible refine (is_yes (u + 1) _ HV.out.1 HV.out.2).mono ?_); rintro e w' ⟨rfl, rfl⟩))
              | (go_at_call 10; ((with_reducible refine (kv_yes u _ HU.out.1 HU.out.2).mono ?_); rintro e w' ⟨rfl, rfl⟩))
              | (go_at_call 10; ((with_reducible refine (kv_yes (u + 1) _ HV.out.1 HV.out.2).mono ?_); rintro e w' ⟨rfl, rfl⟩)))
            go_ret
            exact ⟨rfl, rfl⟩
          have Q1 : decide (k ≤ u * 2147483648) = false := by simpa using q1
          by_cases q2 : (u + 1) * 2147483648 ≤ k
          · have Q2 : decide ((u + 1) * 2147483648 ≤ k) = true := by simpa using q2
            go_enter Try.func7, Try.ntmps7
            go_wp2_with (first
              | (go_at_call 9; ((with_reducible refine (shown_any _).mono ?_); rintro e w' ⟨rfl, rfl⟩))
              | (go_at_call 15; ((with_reducible refine (kr_yes k _ HK.out.1 HK.out.2 HR.out).mono ?_); rintro e w' ⟨rfl, rfl⟩))
              | (go_at_call 16; ((with_reducible refine (ks_any k _ HK.out.1 HK.out.2).mono ?_); rintro e w' ⟨rfl, rfl⟩))
              | (go_at_call 10; ((with_reducible refine (kv_back k _ HK.out.1 HR.out HY.out).mono ?_); rintro e w' ⟨rfl, rfl⟩))
              | (go_at_call 18; ((with_reducible refine (is_yes u _ HU.out.1 HU.out.2).mono ?_); rintro e w' ⟨rfl, rfl⟩))
              | (go_at_call 18; ((with_reducible refine (is_yes (u + 1) _ HV.out.1 HV.out.2).mono ?_); rintro e w' ⟨rfl, rfl⟩))
              | (go_at_call 10; ((with_reducible refine (kv_yes u _ HU.out.1 HU.out.2).mono ?_); rintro e w' ⟨rfl, rfl⟩))
              | (go_at_call 10; ((with_reducible refine (kv_yes (u + 1) _ HV.out.1 HV.out.2).mono ?_); rintro e w' ⟨rfl, rfl⟩)))
            go_ret
            exact ⟨rfl, rfl⟩
          · have Q2 : decide ((u + 1) * 2147483648 ≤ k) = false := by simpa using q2
            have q3 : (k / 2147483648 == u) = true := by simp; omega
            have hc := HY.out
            omega
        · have HU := Lib.hid hu
          have HV := Lib.hid (show u + 1 < 0 ∨ 1073741824 ≤ u + 1 from by omega)
          obtain ⟨hu2, hu3⟩ := hu
          go_enter Try.func7, Try.ntmps7
          go_wp2_with (first
            | (go_at_call 9; ((with_reducible refine (shown_any _).mono ?_); rintro e w' ⟨rfl, rfl⟩))
            | (go_at_call 15; ((with_reducible refine (kr_yes k _ HK.out.1 HK.out.2 HR.out).mono ?_); rintro e w' ⟨rfl, rfl⟩))
            | (go_at_call 16; ((with_reducible refine (ks_any k _ HK.out.1 HK.out.2).mono ?_); rintro e w' ⟨rfl, rfl⟩))
            | (go_at_call 10; ((with_reducible refine (kv_back k _ HK.out.1 HR.out HY.out).mono ?_); rintro e w' ⟨rfl, rfl⟩))
            | (go_at_call 18; ((with_reducible refine (is_yes u _ HU.out.1 HU.out.2).mono ?_); rintro e w' ⟨rfl, rfl⟩))
            | (go_at_call 18; ((with_reducible refine (is_no (u + 1) _ HV.out).mono ?_); rintro e w' ⟨rfl, rfl⟩)))
          go_ret
          exact ⟨rfl, rfl⟩
      · have HU := Lib.hid (show u < 0 ∨ 1073741824 ≤ u from by omega)
        clear hu
        go_enter Try.func7, Try.ntmps7
        go_wp2_with (first
          | (go_at_call 9; ((with_reducible refine (shown_any _).mono ?_); rintro e w' ⟨rfl, rfl⟩))
          | (go_at_call 15; ((with_reducible refine (kr_yes k _ HK.out.1 HK.out.2 HR.out).mono ?_); rintro e w' ⟨rfl, rfl⟩))
          | (go_at_call 16; ((with_reducible refine (ks_any k _ HK.out.1 HK.out.2).mono ?_); rintro e w' ⟨rfl, rfl⟩))
          | (go_at_call 10; ((with_reducible refine (kv_back k _ HK.out.1 HR.out HY.out).mono ?_); rintro e w' ⟨rfl, rfl⟩))
          | (go_at_call 18; ((with_reducible refine (is_no u _ HU.out).mono ?_); rintro e w' ⟨rfl, rfl⟩)))
        go_ret
        exact ⟨rfl, rfl⟩
  · have HR := Lib.hid hk
    clear hk
    go_enter Try.func7, Try.ntmps7
    go_wp2_with (first
      | (go_at_call 9; ((with_reducible refine (shown_any _).mono ?_); rintro e w' ⟨rfl, rfl⟩))
      | (go_at_call 15; ((with_reducible refine (kr_no k _ HK.out.1 HK.out.2 HR.out).mono ?_); rintro e w' ⟨rfl, rfl⟩))
      | (go_at_call 14; ((with_reducible refine (rr_no k _ HK.out.1 HK.out.2 HR.out).mono ?_); rintro e w' ⟨rfl, rfl⟩)))
    go_ret
    exact ⟨rfl, rfl⟩
end Go.Proofs.Ytgaoebeanjgnaaa
