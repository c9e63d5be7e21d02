/- The walks through the statements KeyTells, KeyBack, KeyFrom. -/
import Derived.Test.YtgaoebeanjgnaaaShown
namespace Go.Proofs.Ytgaoebeanjgnaaa
open Go.RowKit

theorem ks_vertex (u : Int) (w : World) (h0 : 0 ≤ u) (h1 : u < 1073741824) : Calls Try.prog 16 #[.int .u64 (u * 2147483648)] w fun e w' => e = .returned (.tuple #[.int .i64 u, .int .i64 (-1)]) ∧ w = w' :=
  (ks_any (u * 2147483648) w (by omega) (by omega)).mono fun e w' ⟨he, hw⟩ => ⟨by rw [he, show u * 2147483648 / 2147483648 = u from by omega, show u * 2147483648 % 2147483648 - 1 = -1 from by omega], hw⟩
theorem ks_edge (u v : Int) (w : World) (h0 : 0 ≤ u) (h1 : u < 1073741824) (h2 : 0 ≤ v) (h3 : v < 1073741824) : Calls Try.prog 16 #[.int .u64 (u * 2147483648 + v + 1)] w fun e w' => e = .returned (.tuple #[.int .i64 u, .int .i64 v]) ∧ w = w' :=
  (ks_any (u * 2147483648 + v + 1) w (by omega) (by omega)).mono fun e w' ⟨he, hw⟩ => ⟨by rw [he, show (u * 2147483648 + v + 1) / 2147483648 = u from by omega, show (u * 2147483648 + v + 1) % 2147483648 - 1 = v from by omega], hw⟩
theorem kr_vertex (u : Int) (w : World) (h0 : 0 ≤ u) (h1 : u < 1073741824) : Calls Try.prog 15 #[.int .u64 (u * 2147483648)] w fun e w' => e = .returned (.bool true) ∧ w = w' :=
  kr_yes _ w (by omega) (by omega) (by unfold Key; omega)
theorem kr_edge (u v : Int) (w : World) (h0 : 0 ≤ u) (h1 : u < 1073741824) (h2 : 0 ≤ v) (h3 : v < 1073741824) : Calls Try.prog 15 #[.int .u64 (u * 2147483648 + v + 1)] w fun e w' => e = .returned (.bool true) ∧ w = w' :=
  kr_yes _ w (by omega) (by omega) (by unfold Key; omega)
/-- What a key splits into makes it again. -/
theorem kv_part (k : Int) (w : World) (h0 : 0 ≤ k) (h : Key k) : Calls Try.prog 10 #[.int .i64 (k / 2147483648)] w fun e w' => e = .returned (.tuple #[.int .u64 (k / 2147483648 * 2147483648), .int .i64 0]) ∧ w = w' :=
  kv_yes _ w (by omega) (by unfold Key at h; omega)
theorem kv_back (k : Int) (w : World) (h0 : 0 ≤ k) (h : Key k) (hy : k % 2147483648 = 0) : Calls Try.prog 10 #[.int .i64 (k / 2147483648)] w fun e w' => e = .returned (.tuple #[.int .u64 k, .int .i64 0]) ∧ w = w' :=
  (kv_yes _ w (by omega) (by unfold Key at h; omega)).mono fun e w' ⟨he, hw⟩ => ⟨by rw [he, show k / 2147483648 * 2147483648 = k from by omega], hw⟩
theorem ke_back (k : Int) (w : World) (h0 : 0 ≤ k) (h : Key k) (hy : 1 ≤ k % 2147483648) : Calls Try.prog 12 #[.int .i64 (k / 2147483648), .int .i64 (k % 2147483648 - 1)] w fun e w' => e = .returned (.tuple #[.int .u64 k, .int .i64 0]) ∧ w = w' :=
  (ke_yes (k / 2147483648) (k % 2147483648 - 1) w (by omega) (by unfold Key at h; omega) (by omega) (by unfold Key at h; omega)).mono fun e w' ⟨he, hw⟩ => ⟨by rw [he, show k / 2147483648 * 2147483648 + (k % 2147483648 - 1) + 1 = k from by omega], hw⟩

theorem tells_walk (u v k : Int) (w : World) (h0 : 0 ≤ k) (h1 : k < 18446744073709551616) :
    Calls Try.prog 3 #[.int .i64 u, .int .i64 v, .int .u64 k] w fun e w' => e = .returned (.bool true) ∧ w = w' := by
  have HK := Lib.hid (show 0 ≤ k ∧ k < 18446744073709551616 from ⟨h0, h1⟩)
  clear h0 h1
  by_cases hu : 0 ≤ u ∧ u < 1073741824 <;> by_cases hv : 0 ≤ v ∧ v < 1073741824 <;> by_cases hk : Key k
  · have HU := Lib.hid hu
    have HV := Lib.hid hv
    have HR := Lib.hid hk
    clear hu hv hk
    go_enter Try.func3, Try.ntmps3
    go_wp2_with (first
      | (go_at_call 9; ((with_reducible refine (shown_any _).mono ?_); rintro e w' ⟨rfl, rfl⟩))
      | (go_at_call 10; ((with_reducible refine (kv_yes u _ HU.out.1 HU.out.2).mono ?_); rintro e w' ⟨rfl, rfl⟩))
      | (go_at_call 11; ((with_reducible refine (rv_yes u _ HU.out.1 HU.out.2).mono ?_); rintro e w' ⟨rfl, rfl⟩))
      | (go_at_call 12; ((with_reducible refine (ke_yes u v _ HU.out.1 HU.out.2 HV.out.1 HV.out.2).mono ?_); rintro e w' ⟨rfl, rfl⟩))
      | (go_at_call 13; ((with_reducible refine (re_yes u v _ HU.out.1 HU.out.2 HV.out.1 HV.out.2).mono ?_); rintro e w' ⟨rfl, rfl⟩))
      | (go_at_call 14; ((with_reducible refine (rr_yes k _ HK.out.1 HK.out.2 HR.out).mono ?_); rintro e w' ⟨rfl, rfl⟩))
      | (go_at_call 15; ((with_reducible refine (kr_yes k _ HK.out.1 HK.out.2 HR.out).mono ?_); rintro e w' ⟨rfl, rfl⟩))
      | (go_at_call 16; ((with_reducible refine (ks_any k _ HK.out.1 HK.out.2).mono ?_); rintro e w' ⟨rfl, rfl⟩))
      | (go_at_call 17; ((with_reducible refine (rs_any k _ HK.out.1 HK.out.2).mono ?_); rintro e w' ⟨rfl, rfl⟩)))
    go_ret
    exact ⟨rfl, rfl⟩
  · have HU := Lib.hid hu
    have HV := Lib.hid hv
    have HR := Lib.hid hk
    clear hu hv hk
    go_enter Try.func3, Try.ntmps3
    go_wp2_with (first
      | (go_at_call 9; ((with_reducible refine (shown_any _).mono ?_); rintro e w' ⟨rfl, rfl⟩))
      | (go_at_call 10; ((with_reducible refine (kv_yes u _ HU.out.1 HU.out.2).mono ?_); rintro e w' ⟨rfl, rfl⟩))
      | (go_at_call 11; ((with_reducible refine (rv_yes u _ HU.out.1 HU.out.2).mono ?_); rintro e w' ⟨rfl, rfl⟩))
      | (go_at_call 12; ((with_reducible refine (ke_yes u v _ HU.out.1 HU.out.2 HV.out.1 HV.out.2).mono ?_); rintro e w' ⟨rfl, rfl⟩))
      | (go_at_call 13; ((with_reducible refine (re_yes u v _ HU.out.1 HU.out.2 HV.out.1 HV.out.2).mono ?_); rintro e w' ⟨rfl, rfl⟩))
      | (go_at_call 14; ((with_reducible refine (rr_no k _ HK.out.1 HK.out.2 HR.out).mono ?_); rintro e w' ⟨rfl, rfl⟩))
      | (go_at_call 15; ((with_reducible refine (kr_no k _ HK.out.1 HK.out.2 HR.out).mono ?_); rintro e w' ⟨rfl, rfl⟩))
      | (go_at_call 16; ((with_reducible refine (ks_any k _ HK.out.1 HK.out.2).mono ?_); rintro e w' ⟨rfl, rfl⟩))
      | (go_at_call 17; ((with_reducible refine (rs_any k _ HK.out.1 HK.out.2).mono ?_); rintro e w' ⟨rfl, rfl⟩)))
    go_ret
    exact ⟨rfl, rfl⟩
  · have HU := Lib.hid hu
    have HV := Lib.hid (show v < 0 ∨ 1073741824 ≤ v from by omega)
    have HE := Lib.hid (show (u < 0 ∨ 1073741824 ≤ u) ∨ (v < 0 ∨ 1073741824 ≤ v) from by omega)
    have HR := Lib.hid hk
    clear hu hv hk
    go_enter Try.func3, Try.ntmps3
    go_wp2_with (first
      | (go_at_call 9; ((with_reducible refine (shown_any _).mono ?_); rintro e w' ⟨rfl, rfl⟩))
      | (go_at_call 10; ((with_reducible refine (kv_yes u _ HU.out.1 HU.out.2).mono ?_); rintro e w' ⟨rfl, rfl⟩))
      | (go_at_call 11; ((with_reducible refine (rv_yes u _ HU.out.1 HU.out.2).mono ?_); rintro e w' ⟨rfl, rfl⟩))
      | (go_at_call 12; ((with_reducible refine (ke_no u v _ HE.out).mono ?_); rintro e w' ⟨rfl, rfl⟩))
      | (go_at_call 13; ((with_reducible refine (re_no u v _ HE.out).mono ?_); rintro e w' ⟨rfl, rfl⟩))
      | (go_at_call 14; ((with_reducible refine (rr_yes k _ HK.out.1 HK.out.2 HR.out).mono ?_); rintro e w' ⟨rfl, rfl⟩))
      | (go_at_call 15; ((with_reducible refine (kr_yes k _ HK.out.1 HK.out.2 HR.out).mono ?_); rintro e w' ⟨rfl, rfl⟩))
      | (go_at_call 16; ((with_reducible refine (ks_any k _ HK.out.1 HK.out.2).mono ?_); rintro e w' ⟨rfl, rfl⟩))
      | (go_at_call 17; ((with_reducible refine (rs_any k _ HK.out.1 HK.out.2).mono ?_); rintro e w' ⟨rfl, rfl⟩)))
    go_ret
    exact ⟨rfl, rfl⟩
  · have HU := Lib.hid hu
    have HV := Lib.hid (show v < 0 ∨ 1073741824 ≤ v from by omega)
    have HE := Lib.hid (show (u < 0 ∨ 1073741824 ≤ u) ∨ (v < 0 ∨ 1073741824 ≤ v) from by omega)
    have HR := Lib.hid hk
    clear hu hv hk
    go_enter Try.func3, Try.ntmps3
    go_wp2_with (first
      | (go_at_call 9; ((with_reducible refine (shown_any _).mono ?_); rintro e w' ⟨rfl, rfl⟩))
      | (go_at_call 10; ((with_reducible refine (kv_yes u _ HU.out.1 HU.out.2).mono ?_); rintro e w' ⟨rfl, rfl⟩))
      | (go_at_call 11; ((with_reducible refine (rv_yes u _ HU.out.1 HU.out.2).mono ?_); rintro e w' ⟨rfl, rfl⟩))
      | (go_at_call 12; ((with_reducible refine (ke_no u v _ HE.out).mono ?_); rintro e w' ⟨rfl, rfl⟩))
      | (go_at_call 13; ((with_reducible refine (re_no u v _ HE.out).mono ?_); rintro e w' ⟨rfl, rfl⟩))
      | (go_at_call 14; ((with_reducible refine (rr_no k _ HK.out.1 HK.out.2 HR.out).mono ?_); rintro e w' ⟨rfl, rfl⟩))
      | (go_at_call 15; ((with_reducible refine (kr_no k _ HK.out.1 HK.out.2 HR.out).mono ?_); rintro e w' ⟨rfl, rfl⟩))
      | (go_at_call 16; ((with_reducible refine (ks_any k _ HK.out.1 HK.out.2).mono ?_); rintro e w' ⟨rfl, rfl⟩))
      | (go_at_call 17; ((with_reducible refine (rs_any k _ HK.out.1 HK.out.2).mono ?_); rintro e w' ⟨rfl, rfl⟩)))
    go_ret
    exact ⟨rfl, rfl⟩
  · have HU := Lib.hid (show u < 0 ∨ 1073741824 ≤ u from by omega)
    have HV := Lib.hid hv
    have HE := Lib.hid (show (u < 0 ∨ 1073741824 ≤ u) ∨ (v < 0 ∨ 1073741824 ≤ v) from by omega)
    have HR := Lib.hid hk
    clear hu hv hk
    go_enter Try.func3, Try.ntmps3
    go_wp2_with (first
      | (go_at_call 9; ((with_reducible refine (shown_any _).mono ?_); rintro e w' ⟨rfl, rfl⟩))
      | (go_at_call 10; ((with_reducible refine (kv_no u _ HU.out).mono ?_); rintro e w' ⟨rfl, rfl⟩))
      | (go_at_call 11; ((with_reducible refine (rv_no u _ HU.out).mono ?_); rintro e w' ⟨rfl, rfl⟩))
      | (go_at_call 12; ((with_reducible refine (ke_no u v _ HE.out).mono ?_); rintro e w' ⟨rfl, rfl⟩))
      | (go_at_call 13; ((with_reducible refine (re_no u v _ HE.out).mono ?_); rintro e w' ⟨rfl, rfl⟩))
      | (go_at_call 14; ((with_reducible refine (rr_yes k _ HK.out.1 HK.out.2 HR.out).mono ?_); rintro e w' ⟨rfl, rfl⟩))
      | (go_at_call 15; ((with_reducible refine (kr_yes k _ HK.out.1 HK.out.2 HR.out).mono ?_); rintro e w' ⟨rfl, rfl⟩))
      | (go_at_call 16; ((with_reducible refine (ks_any k _ HK.out.1 HK.out.2).mono ?_); rintro e w' ⟨rfl, rfl⟩))
      | (go_at_call 17; ((with_reducible refine (rs_any k _ HK.out.1 HK.out.2).mono ?_); rintro e w' ⟨rfl, rfl⟩)))
    go_ret
    exact ⟨rfl, rfl⟩
  · have HU := Lib.hid (show u < 0 ∨ 1073741824 ≤ u from by omega)
    have HV := Lib.hid hv
    have HE := Lib.hid (show (u < 0 ∨ 1073741824 ≤ u) ∨ (v < 0 ∨ 1073741824 ≤ v) from by omega)
    have HR := Lib.hid hk
    clear hu hv hk
    go_enter Try.func3, Try.ntmps3
    go_wp2_with (first
      | (go_at_call 9; ((with_reducible refine (shown_any _).mono ?_); rintro e w' ⟨rfl, rfl⟩))
      | (go_at_call 10; ((with_reducible refine (kv_no u _ HU.out).mono ?_); rintro e w' ⟨rfl, rfl⟩))
      | (go_at_call 11; ((with_reducible refine (rv_no u _ HU.out).mono ?_); rintro e w' ⟨rfl, rfl⟩))
      | (go_at_call 12; ((with_reducible refine (ke_no u v _ HE.out).mono ?_); rintro e w' ⟨rfl, rfl⟩))
      | (go_at_call 13; ((with_reducible refine (re_no u v _ HE.out).mono ?_); rintro e w' ⟨rfl, rfl⟩))
      | (go_at_call 14; ((with_reducible refine (rr_no k _ HK.out.1 HK.out.2 HR.out).mono ?_); rintro e w' ⟨rfl, rfl⟩))
      | (go_at_call 15; ((with_reducible refine (kr_no k _ HK.out.1 HK.out.2 HR.out).mono ?_); rintro e w' ⟨rfl, rfl⟩))
      | (go_at_call 16; ((with_reducible refine (ks_any k _ HK.out.1 HK.out.2).mono ?_); rintro e w' ⟨rfl, rfl⟩))
      | (go_at_call 17; ((with_reducible refine (rs_any k _ HK.out.1 HK.out.2).mono ?_); rintro e w' ⟨rfl, rfl⟩)))
    go_ret
    exact ⟨rfl, rfl⟩
  · have HU := Lib.hid (show u < 0 ∨ 1073741824 ≤ u from by omega)
    have HV := Lib.hid (show v < 0 ∨ 1073741824 ≤ v from by omega)
    have HE := Lib.hid (show (u < 0 ∨ 1073741824 ≤ u) ∨ (v < 0 ∨ 1073741824 ≤ v) from by omega)
    have HR := Lib.hid hk
    clear hu hv hk
    go_enter Try.func3, Try.ntmps3
    go_wp2_with (first
      | (go_at_call 9; ((with_reducible refine (shown_any _).mono ?_); rintro e w' ⟨rfl, rfl⟩))
      | (go_at_call 10; ((with_reducible refine (kv_no u _ HU.out).mono ?_); rintro e w' ⟨rfl, rfl⟩))
      | (go_at_call 11; ((with_reducible refine (rv_no u _ HU.out).mono ?_); rintro e w' ⟨rfl, rfl⟩))
      | (go_at_call 12; ((with_reducible refine (ke_no u v _ HE.out).mono ?_); rintro e w' ⟨rfl, rfl⟩))
      | (go_at_call 13; ((with_reducible refine (re_no u v _ HE.out).mono ?_); rintro e w' ⟨rfl, rfl⟩))
      | (go_at_call 14; ((with_reducible refine (rr_yes k _ HK.out.1 HK.out.2 HR.out).mono ?_); rintro e w' ⟨rfl, rfl⟩))
      | (go_at_call 15; ((with_reducible refine (kr_yes k _ HK.out.1 HK.out.2 HR.out).mono ?_); rintro e w' ⟨rfl, rfl⟩))
      | (go_at_call 16; ((with_reducible refine (ks_any k _ HK.out.1 HK.out.2).mono ?_); rintro e w' ⟨rfl, rfl⟩))
      | (go_at_call 17; ((with_reducible refine (rs_any k _ HK.out.1 HK.out.2).mono ?_); rintro e w' ⟨rfl, rfl⟩)))
    go_ret
    exact ⟨rfl, rfl⟩
  · have HU := Lib.hid (show u < 0 ∨ 1073741824 ≤ u from by omega)
    have HV := Lib.hid (show v < 0 ∨ 1073741824 ≤ v from by omega)
    have HE := Lib.hid (show (u < 0 ∨ 1073741824 ≤ u) ∨ (v < 0 ∨ 1073741824 ≤ v) from by omega)
    have HR := Lib.hid hk
    clear hu hv hk
    go_enter Try.func3, Try.ntmps3
    go_wp2_with (first
      | (go_at_call 9; ((with_reducible refine (shown_any _).mono ?_); rintro e w' ⟨rfl, rfl⟩))
      | (go_at_call 10; ((with_reducible refine (kv_no u _ HU.out).mono ?_); rintro e w' ⟨rfl, rfl⟩))
      | (go_at_call 11; ((with_reducible refine (rv_no u _ HU.out).mono ?_); rintro e w' ⟨rfl, rfl⟩))
      | (go_at_call 12; ((with_reducible refine (ke_no u v _ HE.out).mono ?_); rintro e w' ⟨rfl, rfl⟩))
      | (go_at_call 13; ((with_reducible refine (re_no u v _ HE.out).mono ?_); rintro e w' ⟨rfl, rfl⟩))
      | (go_at_call 14; ((with_reducible refine (rr_no k _ HK.out.1 HK.out.2 HR.out).mono ?_); rintro e w' ⟨rfl, rfl⟩))
      | (go_at_call 15; ((with_reducible refine (kr_no k _ HK.out.1 HK.out.2 HR.out).mono ?_); rintro e w' ⟨rfl, rfl⟩))
      | (go_at_call 16; ((with_reducible refine (ks_any k _ HK.out.1 HK.out.2).mono ?_); rintro e w' ⟨rfl, rfl⟩))
      | (go_at_call 17; ((with_reducible refine (rs_any k _ HK.out.1 HK.out.2).mono ?_); rintro e w' ⟨rfl, rfl⟩)))
    go_ret
    exact ⟨rfl, rfl⟩

theorem back_walk (u v k : Int) (w : World) (h0 : 0 ≤ k) (h1 : k < 18446744073709551616) :
    Calls Try.prog 4 #[.int .i64 u, .int .i64 v, .int .u64 k] w fun e w' => e = .returned (.bool true) ∧ w = w' := by
  have HK := Lib.hid (show 0 ≤ k ∧ k < 18446744073709551616 from ⟨h0, h1⟩)
  clear h0 h1
  by_cases hu : 0 ≤ u ∧ u < 1073741824 <;> by_cases hv : 0 ≤ v ∧ v < 1073741824 <;> by_cases hk : Key k
  · have HU := Lib.hid hu
    have HV := Lib.hid hv
    have HR := Lib.hid hk
    clear hu hv hk
    by_cases hy : 1 ≤ k % 2147483648
    · have HY := Lib.hid hy
      have hy1 : 0 ≤ k % 2147483648 - 1 := by omega
      clear hy
      go_enter Try.func4, Try.ntmps4
      go_wp2_with (first
        | (go_at_call 9; ((with_reducible refine (shown_any _).mono ?_); rintro e w' ⟨rfl, rfl⟩))
        | (go_at_call 10; ((with_reducible refine (kv_yes u _ HU.out.1 HU.out.2).mono ?_); rintro e w' ⟨rfl, rfl⟩))
        | (go_at_call 15; ((with_reducible refine (kr_vertex u _ HU.out.1 HU.out.2).mono ?_); rintro e w' ⟨rfl, rfl⟩))
        | (go_at_call 16; ((with_reducible refine (ks_vertex u _ HU.out.1 HU.out.2).mono ?_); rintro e w' ⟨rfl, rfl⟩))
        | (go_at_call 18; ((with_reducible refine (is_yes u _ HU.out.1 HU.out.2).mono ?_); rintro e w' ⟨rfl, rfl⟩))
        | (go_at_call 12; ((with_reducible refine (ke_yes u v _ HU.out.1 HU.out.2 HV.out.1 HV.out.2).mono ?_); rintro e w' ⟨rfl, rfl⟩))
        | (go_at_call 15; ((with_reducible refine (kr_edge u v _ HU.out.1 HU.out.2 HV.out.1 HV.out.2).mono ?_); rintro e w' ⟨rfl, rfl⟩))
        | (go_at_call 16; ((with_reducible refine (ks_edge u v _ HU.out.1 HU.out.2 HV.out.1 HV.out.2).mono ?_); rintro e w' ⟨rfl, rfl⟩))
        | (go_at_call 18; ((with_reducible refine (is_yes v _ HV.out.1 HV.out.2).mono ?_); rintro e w' ⟨rfl, rfl⟩))
        | (go_at_call 15; ((with_reducible refine (kr_yes k _ HK.out.1 HK.out.2 HR.out).mono ?_); rintro e w' ⟨rfl, rfl⟩))
        | (go_at_call 16; ((with_reducible refine (ks_any k _ HK.out.1 HK.out.2).mono ?_); rintro e w' ⟨rfl, rfl⟩))
        | (go_at_call 10; ((with_reducible refine (kv_part k _ HK.out.1 HR.out).mono ?_); rintro e w' ⟨rfl, rfl⟩))
        | (go_at_call 12; ((with_reducible refine (ke_back k _ HK.out.1 HR.out HY.out).mono ?_); rintro e w' ⟨rfl, rfl⟩)))
      go_ret
      exact ⟨rfl, rfl⟩
    · have HY := Lib.hid (show k % 2147483648 = 0 from by omega)
      have hy1 : k % 2147483648 - 1 < 0 := by omega
      clear hy
      go_enter Try.func4, Try.ntmps4
      go_wp2_with (first
        | (go_at_call 9; ((with_reducible refine (shown_any _).mono ?_); rintro e w' ⟨rfl, rfl⟩))
        | (go_at_call 10; ((with_reducible refine (kv_yes u _ HU.out.1 HU.out.2).mono ?_); rintro e w' ⟨rfl, rfl⟩))
        | (go_at_call 15; ((with_reducible refine (kr_vertex u _ HU.out.1 HU.out.2).mono ?_); rintro e w' ⟨rfl, rfl⟩))
        | (go_at_call 16; ((with_reducible refine (ks_vertex u _ HU.out.1 HU.out.2).mono ?_); rintro e w' ⟨rfl, rfl⟩))
        | (go_at_call 18; ((with_reducible refine (is_yes u _ HU.out.1 HU.out.2).mono ?_); rintro e w' ⟨rfl, rfl⟩))
        | (go_at_call 12; ((with_reducible refine (ke_yes u v _ HU.out.1 HU.out.2 HV.out.1 HV.out.2).mono ?_); rintro e w' ⟨rfl, rfl⟩))
        | (go_at_call 15; ((with_reducible refine (kr_edge u v _ HU.out.1 HU.out.2 HV.out.1 HV.out.2).mono ?_); rintro e w' ⟨rfl, rfl⟩))
        | (go_at_call 16; ((with_reducible refine (ks_edge u v _ HU.out.1 HU.out.2 HV.out.1 HV.out.2).mono ?_); rintro e w' ⟨rfl, rfl⟩))
        | (go_at_call 18; ((with_reducible refine (is_yes v _ HV.out.1 HV.out.2).mono ?_); rintro e w' ⟨rfl, rfl⟩))
        | (go_at_call 15; ((with_reducible refine (kr_yes k _ HK.out.1 HK.out.2 HR.out).mono ?_); rintro e w' ⟨rfl, rfl⟩))
        | (go_at_call 16; ((with_reducible refine (ks_any k _ HK.out.1 HK.out.2).mono ?_); rintro e w' ⟨rfl, rfl⟩))
        | (go_at_call 10; ((with_reducible refine (kv_back k _ HK.out.1 HR.out HY.out).mono ?_); rintro e w' ⟨rfl, rfl⟩)))
      go_ret
      exact ⟨rfl, rfl⟩
  · have HU := Lib.hid hu
    have HV := Lib.hid hv
    have HR := Lib.hid hk
    clear hu hv hk
    go_enter Try.func4, Try.ntmps4
    go_wp2_with (first
      | (go_at_call 9; ((with_reducible refine (shown_any _).mono ?_); rintro e w' ⟨rfl, rfl⟩))
      | (go_at_call 10; ((with_reducible refine (kv_yes u _ HU.out.1 HU.out.2).mono ?_); rintro e w' ⟨rfl, rfl⟩))
      | (go_at_call 15; ((with_reducible refine (kr_vertex u _ HU.out.1 HU.out.2).mono ?_); rintro e w' ⟨rfl, rfl⟩))
      | (go_at_call 16; ((with_reducible refine (ks_vertex u _ HU.out.1 HU.out.2).mono ?_); rintro e w' ⟨rfl, rfl⟩))
      | (go_at_call 18; ((with_reducible refine (is_yes u _ HU.out.1 HU.out.2).mono ?_); rintro e w' ⟨rfl, rfl⟩))
      | (go_at_call 12; ((with_reducible refine (ke_yes u v _ HU.out.1 HU.out.2 HV.out.1 HV.out.2).mono ?_); rintro e w' ⟨rfl, rfl⟩))
      | (go_at_call 15; ((with_reducible refine (kr_edge u v _ HU.out.1 HU.out.2 HV.out.1 HV.out.2).mono ?_); rintro e w' ⟨rfl, rfl⟩))
      | (go_at_call 16; ((with_reducible refine (ks_edge u v _ HU.out.1 HU.out.2 HV.out.1 HV.out.2).mono ?_); rintro e w' ⟨rfl, rfl⟩))
      | (go_at_call 18; ((with_reducible refine (is_yes v _ HV.out.1 HV.out.2).mono ?_); rintro e w' ⟨rfl, rfl⟩))
      | (go_at_call 15; ((with_reducible refine (kr_no k _ HK.out.1 HK.out.2 HR.out).mono ?_); rintro e w' ⟨rfl, rfl⟩)))
    go_ret
    exact ⟨rfl, rfl⟩
  · have HU := Lib.hid hu
    have HV := Lib.hid (show v < 0 ∨ 1073741824 ≤ v from by omega)
    have HE := Lib.hid (show (u < 0 ∨ 1073741824 ≤ u) ∨ (v < 0 ∨ 1073741824 ≤ v) from by omega)
    have HR := Lib.hid hk
    clear hu hv hk
    by_cases hy : 1 ≤ k % 2147483648
    · have HY := Lib.hid hy
      have hy1 : 0 ≤ k % 2147483648 - 1 := by omega
      clear hy
      go_enter Try.func4, Try.ntmps4
      go_wp2_with (first
        | (go_at_call 9; ((with_reducible refine (shown_any _).mono ?_); rintro e w' ⟨rfl, rfl⟩))
        | (go_at_call 10; ((with_reducible refine (kv_yes u _ HU.out.1 HU.out.2).mono ?_); rintro e w' ⟨rfl, rfl⟩))
        | (go_at_call 15; ((with_reducible refine (kr_vertex u _ HU.out.1 HU.out.2).mono ?_); rintro e w' ⟨rfl, rfl⟩))
        | (go_at_call 16; ((with_reducible refine (ks_vertex u _ HU.out.1 HU.out.2).mono ?_); rintro e w' ⟨rfl, rfl⟩))
        | (go_at_call 18; ((with_reducible refine (is_yes u _ HU.out.1 HU.out.2).mono ?_); rintro e w' ⟨rfl, rfl⟩))
        | (go_at_call 12; ((with_reducible refine (ke_no u v _ HE.out).mono ?_); rintro e w' ⟨rfl, rfl⟩))
        | (go_at_call 18; ((with_reducible refine (is_no v _ HV.out).mono ?_); rintro e w' ⟨rfl, rfl⟩))
        | (go_at_call 15; ((with_reducible refine (kr_yes k _ HK.out.1 HK.out.2 HR.out).mono ?_); rintro e w' ⟨rfl, rfl⟩))
        | (go_at_call 16; ((with_reducible refine (ks_any k _ HK.out.1 HK.out.2).mono ?_); rintro e w' ⟨rfl, rfl⟩))
        | (go_at_call 10; ((with_reducible refine (kv_part k _ HK.out.1 HR.out).mono ?_); rintro e w' ⟨rfl, rfl⟩))
        | (go_at_call 12; ((with_reducible refine (ke_back k _ HK.out.1 HR.out HY.out).mono ?_); rintro e w' ⟨rfl, rfl⟩)))
      go_ret
      exact ⟨rfl, rfl⟩
    · have HY := Lib.hid (show k % 2147483648 = 0 from by omega)
      have hy1 : k % 2147483648 - 1 < 0 := by omega
      clear hy
      go_enter Try.func4, Try.ntmps4
      go_wp2_with (first
        | (go_at_call 9; ((with_reducible refine (shown_any _).mono ?_); rintro e w' ⟨rfl, rfl⟩))
        | (go_at_call 10; ((with_reducible refine (kv_yes u _ HU.out.1 HU.out.2).mono ?_); rintro e w' ⟨rfl, rfl⟩))
        | (go_at_call 15; ((with_reducible refine (kr_vertex u _ HU.out.1 HU.out.2).mono ?_); rintro e w' ⟨rfl, rfl⟩))
        | (go_at_call 16; ((with_reducible refine (ks_vertex u _ HU.out.1 HU.out.2).mono ?_); rintro e w' ⟨rfl, rfl⟩))
        | (go_at_call 18; ((with_reducible refine (is_yes u _ HU.out.1 HU.out.2).mono ?_); rintro e w' ⟨rfl, rfl⟩))
        | (go_at_call 12; ((with_reducible refine (ke_no u v _ HE.out).mono ?_); rintro e w' ⟨rfl, rfl⟩))
        | (go_at_call 18; ((with_reducible refine (is_no v _ HV.out).mono ?_); rintro e w' ⟨rfl, rfl⟩))
        | (go_at_call 15; ((with_reducible refine (kr_yes k _ HK.out.1 HK.out.2 HR.out).mono ?_); rintro e w' ⟨rfl, rfl⟩))
        | (go_at_call 16; ((with_reducible refine (ks_any k _ HK.out.1 HK.out.2).mono ?_); rintro e w' ⟨rfl, rfl⟩))
        | (go_at_call 10; ((with_reducible refine (kv_back k _ HK.out.1 HR.out HY.out).mono ?_); rintro e w' ⟨rfl, rfl⟩)))
      go_ret
      exact ⟨rfl, rfl⟩
  · have HU := Lib.hid hu
    have HV := Lib.hid (show v < 0 ∨ 1073741824 ≤ v from by omega)
    have HE := Lib.hid (show (u < 0 ∨ 1073741824 ≤ u) ∨ (v < 0 ∨ 1073741824 ≤ v) from by omega)
    have HR := Lib.hid hk
    clear hu hv hk
    go_enter Try.func4, Try.ntmps4
    go_wp2_with (first
      | (go_at_call 9; ((with_reducible refine (shown_any _).mono ?_); rintro e w' ⟨rfl, rfl⟩))
      | (go_at_call 10; ((with_reducible refine (kv_yes u _ HU.out.1 HU.out.2).mono ?_); rintro e w' ⟨rfl, rfl⟩))
      | (go_at_call 15; ((with_reducible refine (kr_vertex u _ HU.out.1 HU.out.2).mono ?_); rintro e w' ⟨rfl, rfl⟩))
      | (go_at_call 16; ((with_reducible refine (ks_vertex u _ HU.out.1 HU.out.2).mono ?_); rintro e w' ⟨rfl, rfl⟩))
      | (go_at_call 18; ((with_reducible refine (is_yes u _ HU.out.1 HU.out.2).mono ?_); rintro e w' ⟨rfl, rfl⟩))
      | (go_at_call 12; ((with_reducible refine (ke_no u v _ HE.out).mono ?_); rintro e w' ⟨rfl, rfl⟩))
      | (go_at_call 18; ((with_reducible refine (is_no v _ HV.out).mono ?_); rintro e w' ⟨rfl, rfl⟩))
      | (go_at_call 15; ((with_reducible refine (kr_no k _ HK.out.1 HK.out.2 HR.out).mono ?_); rintro e w' ⟨rfl, rfl⟩)))
    go_ret
    exact ⟨rfl, rfl⟩
  · have HU := Lib.hid (show u < 0 ∨ 1073741824 ≤ u from by omega)
    have HV := Lib.hid hv
    have HE := Lib.hid (show (u < 0 ∨ 1073741824 ≤ u) ∨ (v < 0 ∨ 1073741824 ≤ v) from by omega)
    have HR := Lib.hid hk
    clear hu hv hk
    by_cases hy : 1 ≤ k % 2147483648
    · have HY := Lib.hid hy
      have hy1 : 0 ≤ k % 2147483648 - 1 := by omega
      clear hy
      go_enter Try.func4, Try.ntmps4
      go_wp2_with (first
        | (go_at_call 9; ((with_reducible refine (shown_any _).mono ?_); rintro e w' ⟨rfl, rfl⟩))
        | (go_at_call 10; ((with_reducible refine (kv_no u _ HU.out).mono ?_); rintro e w' ⟨rfl, rfl⟩))
        | (go_at_call 18; ((with_reducible refine (is_no u _ HU.out).mono ?_); rintro e w' ⟨rfl, rfl⟩))
        | (go_at_call 12; ((with_reducible refine (ke_no u v _ HE.out).mono ?_); rintro e w' ⟨rfl, rfl⟩))
        | (go_at_call 18; ((with_reducible refine (is_yes v _ HV.out.1 HV.out.2).mono ?_); rintro e w' ⟨rfl, rfl⟩))
        | (go_at_call 15; ((with_reducible refine (kr_yes k _ HK.out.1 HK.out.2 HR.out).mono ?_); rintro e w' ⟨rfl, rfl⟩))
        | (go_at_call 16; ((with_reducible refine (ks_any k _ HK.out.1 HK.out.2).mono ?_); rintro e w' ⟨rfl, rfl⟩))
        | (go_at_call 10; ((with_reducible refine (kv_part k _ HK.out.1 HR.out).mono ?_); rintro e w' ⟨rfl, rfl⟩))
        | (go_at_call 12; ((with_reducible refine (ke_back k _ HK.out.1 HR.out HY.out).mono ?_); rintro e w' ⟨rfl, rfl⟩)))
      go_ret
      exact ⟨rfl, rfl⟩
    · have HY := Lib.hid (show k % 2147483648 = 0 from by omega)
      have hy1 : k % 2147483648 - 1 < 0 := by omega
      clear hy
      go_enter Try.func4, Try.ntmps4
      go_wp2_with (first
        | (go_at_call 9; ((with_reducible refine (shown_any _).mono ?_); rintro e w' ⟨rfl, rfl⟩))
        | (go_at_call 10; ((with_reducible refine (kv_no u _ HU.out).mono ?_); rintro e w' ⟨rfl, rfl⟩))
        | (go_at_call 18; ((with_reducible refine (is_no u _ HU.out).mono ?_); rintro e w' ⟨rfl, rfl⟩))
        | (go_at_call 12; ((with_reducible refine (ke_no u v _ HE.out).mono ?_); rintro e w' ⟨rfl, rfl⟩))
        | (go_at_call 18; ((with_reducible refine (is_yes v _ HV.out.1 HV.out.2).mono ?_); rintro e w' ⟨rfl, rfl⟩))
        | (go_at_call 15; ((with_reducible refine (kr_yes k _ HK.out.1 HK.out.2 HR.out).mono ?_); rintro e w' ⟨rfl, rfl⟩))
        | (go_at_call 16; ((with_reducible refine (ks_any k _ HK.out.1 HK.out.2).mono ?_); rintro e w' ⟨rfl, rfl⟩))
        | (go_at_call 10; ((with_reducible refine (kv_back k _ HK.out.1 HR.out HY.out).mono ?_); rintro e w' ⟨rfl, rfl⟩)))
      go_ret
      exact ⟨rfl, rfl⟩
  · have HU := Lib.hid (show u < 0 ∨ 1073741824 ≤ u from by omega)
    have HV := Lib.hid hv
    have HE := Lib.hid (show (u < 0 ∨ 1073741824 ≤ u) ∨ (v < 0 ∨ 1073741824 ≤ v) from by omega)
    have HR := Lib.hid hk
    clear hu hv hk
    go_enter Try.func4, Try.ntmps4
    go_wp2_with (first
      | (go_at_call 9; ((with_reducible refine (shown_any _).mono ?_); rintro e w' ⟨rfl, rfl⟩))
      | (go_at_call 10; ((with_reducible refine (kv_no u _ HU.out).mono ?_); rintro e w' ⟨rfl, rfl⟩))
      | (go_at_call 18; ((with_reducible refine (is_no u _ HU.out).mono ?_); rintro e w' ⟨rfl, rfl⟩))
      | (go_at_call 12; ((with_reducible refine (ke_no u v _ HE.out).mono ?_); rintro e w' ⟨rfl, rfl⟩))
      | (go_at_call 18; ((with_reducible refine (is_yes v _ HV.out.1 HV.out.2).mono ?_); rintro e w' ⟨rfl, rfl⟩))
      | (go_at_call 15; ((with_reducible refine (kr_no k _ HK.out.1 HK.out.2 HR.out).mono ?_); rintro e w' ⟨rfl, rfl⟩)))
    go_ret
    exact ⟨rfl, rfl⟩
  · have HU := Lib.hid (show u < 0 ∨ 1073741824 ≤ u from by omega)
    have HV := Lib.hid (show v < 0 ∨ 1073741824 ≤ v from by omega)
    have HE := Lib.hid (show (u < 0 ∨ 1073741824 ≤ u) ∨ (v < 0 ∨ 1073741824 ≤ v) from by omega)
    have HR := Lib.hid hk
    clear hu hv hk
    by_cases hy : 1 ≤ k % 2147483648
    · have HY := Lib.hid hy
      have hy1 : 0 ≤ k % 2147483648 - 1 := by omega
      clear hy
      go_enter Try.func4, Try.ntmps4
      go_wp2_with (first
        | (go_at_call 9; ((with_reducible refine (shown_any _).mono ?_); rintro e w' ⟨rfl, rfl⟩))
        | (go_at_call 10; ((with_reducible refine (kv_no u _ HU.out).mono ?_); rintro e w' ⟨rfl, rfl⟩))
        | (go_at_call 18; ((with_reducible refine (is_no u _ HU.out).mono ?_); rintro e w' ⟨rfl, rfl⟩))
        | (go_at_call 12; ((with_reducible refine (ke_no u v _ HE.out).mono ?_); rintro e w' ⟨rfl, rfl⟩))
        | (go_at_call 18; ((with_reducible refine (is_no v _ HV.out).mono ?_); rintro e w' ⟨rfl, rfl⟩))
        | (go_at_call 15; ((with_reducible refine (kr_yes k _ HK.out.1 HK.out.2 HR.out).mono ?_); rintro e w' ⟨rfl, rfl⟩))
        | (go_at_call 16; ((with_reducible refine (ks_any k _ HK.out.1 HK.out.2).mono ?_); rintro e w' ⟨rfl, rfl⟩))
        | (go_at_call 10; ((with_reducible refine (kv_part k _ HK.out.1 HR.out).mono ?_); rintro e w' ⟨rfl, rfl⟩))
        | (go_at_call 12; ((with_reducible refine (ke_back k _ HK.out.1 HR.out HY.out).mono ?_); rintro e w' ⟨rfl, rfl⟩)))
      go_ret
      exact ⟨rfl, rfl⟩
    · have HY := Lib.hid (show k % 2147483648 = 0 from by omega)
      have hy1 : k % 2147483648 - 1 < 0 := by omega
      clear hy
      go_enter Try.func4, Try.ntmps4
      go_wp2_with (first
        | (go_at_call 9; ((with_reducible refine (shown_any _).mono ?_); rintro e w' ⟨rfl, rfl⟩))
        | (go_at_call 10; ((with_reducible refine (kv_no u _ HU.out).mono ?_); rintro e w' ⟨rfl, rfl⟩))
        | (go_at_call 18; ((with_reducible refine (is_no u _ HU.out).mono ?_); rintro e w' ⟨rfl, rfl⟩))
        | (go_at_call 12; ((with_reducible refine (ke_no u v _ HE.out).mono ?_); rintro e w' ⟨rfl, rfl⟩))
        | (go_at_call 18; ((with_reducible refine (is_no v _ HV.out).mono ?_); rintro e w' ⟨rfl, rfl⟩))
        | (go_at_call 15; ((with_reducible refine (kr_yes k _ HK.out.1 HK.out.2 HR.out).mono ?_); rintro e w' ⟨rfl, rfl⟩))
        | (go_at_call 16; ((with_reducible refine (ks_any k _ HK.out.1 HK.out.2).mono ?_); rintro e w' ⟨rfl, rfl⟩))
        | (go_at_call 10; ((with_reducible refine (kv_back k _ HK.out.1 HR.out HY.out).mono ?_); rintro e w' ⟨rfl, rfl⟩)))
      go_ret
      exact ⟨rfl, rfl⟩
  · have HU := Lib.hid (show u < 0 ∨ 1073741824 ≤ u from by omega)
    have HV := Lib.hid (show v < 0 ∨ 1073741824 ≤ v from by omega)
    have HE := Lib.hid (show (u < 0 ∨ 1073741824 ≤ u) ∨ (v < 0 ∨ 1073741824 ≤ v) from by omega)
    have HR := Lib.hid hk
    clear hu hv hk
    go_enter Try.func4, Try.ntmps4
    go_wp2_with (first
      | (go_at_call 9; ((with_reducible refine (shown_any _).mono ?_); rintro e w' ⟨rfl, rfl⟩))
      | (go_at_call 10; ((with_reducible refine (kv_no u _ HU.out).mono ?_); rintro e w' ⟨rfl, rfl⟩))
      | (go_at_call 18; ((with_reducible refine (is_no u _ HU.out).mono ?_); rintro e w' ⟨rfl, rfl⟩))
      | (go_at_call 12; ((with_reducible refine (ke_no u v _ HE.out).mono ?_); rintro e w' ⟨rfl, rfl⟩))
      | (go_at_call 18; ((with_reducible refine (is_no v _ HV.out).mono ?_); rintro e w' ⟨rfl, rfl⟩))
      | (go_at_call 15; ((with_reducible refine (kr_no k _ HK.out.1 HK.out.2 HR.out).mono ?_); rintro e w' ⟨rfl, rfl⟩)))
    go_ret
    exact ⟨rfl, rfl⟩
end Go.Proofs.Ytgaoebeanjgnaaa
