/- The contracts of keys and their references: each function, where it answers and where it refuses. -/
import Derived.Test.YtgaoebeanjgnaaaRows
import Derived.WalkKit
import Derived.ProofKit
import Derived.OpenShut
import Derived.Below
import Derived.Lib.Hide
import Derived.WalkLawsBesides
import Derived.Laws.BitsAllLaws
import Derived.Outline
namespace Go.Proofs.Ytgaoebeanjgnaaa
open Go.RowKit

theorem and31 (k : Int) (h0 : 0 ≤ k) (h1 : k < 18446744073709551616) : bits .and .u64 k 2147483647 = k % 2147483648 := by
  obtain ⟨K, rfl⟩ := Int.eq_ofNat_of_zero_le h0
  rw [show (2147483647 : Int) = ((2147483647 : Nat) : Int) from rfl, u64_and_nat K 2147483647 (by omega) (by omega)]
  rw [show (2147483647 : Nat) = 2 ^ 31 - 1 from rfl, Nat.and_two_pow_sub_one_eq_mod]
  omega

theorem vertex_yes (u : Int) (w : World) (h0 : 0 ≤ u) (h1 : u < 1073741824) : Calls Try.prog 19 #[.int .i64 u] w fun e w' => e = .returned (.bool true) ∧ w = w' := by
  go_enter Try.func19, Try.ntmps19
  go_wp2
  go_ret
  exact ⟨rfl, rfl⟩
theorem vertex_no (u : Int) (w : World) (h : u < 0 ∨ 1073741824 ≤ u) : Calls Try.prog 19 #[.int .i64 u] w fun e w' => e = .returned (.bool false) ∧ w = w' := by
  rcases h with h | h
  · go_enter Try.func19, Try.ntmps19
    go_wp2
    go_ret
    exact ⟨rfl, rfl⟩
  · have hd : decide (u < 1073741824) = false := by simp; omega
    have h0 : 0 ≤ u := by omega
    go_enter Try.func19, Try.ntmps19
    go_wp2
    go_ret
    exact ⟨rfl, rfl⟩
/-- wealdref01.Is. -/
theorem is_yes (u : Int) (w : World) (h0 : 0 ≤ u) (h1 : u < 1073741824) : Calls Try.prog 18 #[.int .i64 u] w fun e w' => e = .returned (.bool true) ∧ w = w' := by
  have h2 : u ≤ 1073741823 := by omega
  go_enter Try.func18, Try.ntmps18
  go_wp2
  go_ret
  exact ⟨rfl, rfl⟩
theorem is_no (u : Int) (w : World) (h : u < 0 ∨ 1073741824 ≤ u) : Calls Try.prog 18 #[.int .i64 u] w fun e w' => e = .returned (.bool false) ∧ w = w' := by
  rcases h with h | h
  · go_enter Try.func18, Try.ntmps18
    go_wp2
    go_ret
    exact ⟨rfl, rfl⟩
  · have hd : decide (u ≤ 1073741823) = false := by simp; omega
    have h0 : 0 ≤ u := by omega
    go_enter Try.func18, Try.ntmps18
    go_wp2
    go_ret
    exact ⟨rfl, rfl⟩
/-- key.Vertex. -/
theorem kv_yes (u : Int) (w : World) (h0 : 0 ≤ u) (h1 : u < 1073741824) : Calls Try.prog 10 #[.int .i64 u] w fun e w' => e = .returned (.tuple #[.int .u64 (u * 2147483648), .int .i64 0]) ∧ w = w' := by
  go_enter Try.func10, Try.ntmps10
  go_wp2_with (go_at_call 19; refine (vertex_yes _ _ h0 h1).mono ?_; rintro e w' ⟨rfl, rfl⟩)
  go_ret2
  exact ⟨rfl, rfl⟩
theorem kv_no (u : Int) (w : World) (h : u < 0 ∨ 1073741824 ≤ u) : Calls Try.prog 10 #[.int .i64 u] w fun e w' => e = .returned (.tuple #[.int .u64 0, .int .i64 4]) ∧ w = w' := by
  have H := Lib.hid h
  clear h
  go_enter Try.func10, Try.ntmps10
  go_wp2_with (go_at_call 19; refine (vertex_no _ _ H.out).mono ?_; rintro e w' ⟨rfl, rfl⟩)
  go_ret2
  exact ⟨rfl, rfl⟩
/-- wealdref01.Vertex. -/
theorem rv_yes (u : Int) (w : World) (h0 : 0 ≤ u) (h1 : u < 1073741824) : Calls Try.prog 11 #[.int .i64 u] w fun e w' => e = .returned (.tuple #[.int .u64 (u * 2147483648), .int .i64 0]) ∧ w = w' := by
  have h2 : u ≤ 1073741823 := by omega
  go_enter Try.func11, Try.ntmps11
  go_wp2
  go_ret2
  exact ⟨rfl, rfl⟩
theorem rv_no (u : Int) (w : World) (h : u < 0 ∨ 1073741824 ≤ u) : Calls Try.prog 11 #[.int .i64 u] w fun e w' => e = .returned (.tuple #[.int .u64 0, .int .i64 4]) ∧ w = w' := by
  rcases h with h | h
  · go_enter Try.func11, Try.ntmps11
    go_wp2
    go_ret2
    exact ⟨rfl, rfl⟩
  · have hd : 1073741823 < u := by omega
    have h0 : ¬ u < 0 := by omega
    go_enter Try.func11, Try.ntmps11
    go_wp2
    go_ret2
    exact ⟨rfl, rfl⟩
/-- key.Edge. -/
theorem ke_yes (u v : Int) (w : World) (h0 : 0 ≤ u) (h1 : u < 1073741824) (h2 : 0 ≤ v) (h3 : v < 1073741824) : Calls Try.prog 12 #[.int .i64 u, .int .i64 v] w fun e w' => e = .returned (.tuple #[.int .u64 (u * 2147483648 + v + 1), .int .i64 0]) ∧ w = w' := by
  go_enter Try.func12, Try.ntmps12
  go_wp2_with (first | (go_at_call 10; refine (kv_yes _ _ h0 h1).mono ?_; rintro e w' ⟨rfl, rfl⟩) | (go_at_call 19; refine (vertex_yes _ _ h2 h3).mono ?_; rintro e w' ⟨rfl, rfl⟩))
  go_ret2
  exact ⟨rfl, rfl⟩
theorem ke_no (u v : Int) (w : World) (h : (u < 0 ∨ 1073741824 ≤ u) ∨ (v < 0 ∨ 1073741824 ≤ v)) : Calls Try.prog 12 #[.int .i64 u, .int .i64 v] w fun e w' => e = .returned (.tuple #[.int .u64 0, .int .i64 4]) ∧ w = w' := by
  by_cases hu : u < 0 ∨ 1073741824 ≤ u
  · have H := Lib.hid hu
    clear h hu
    go_enter Try.func12, Try.ntmps12
    go_wp2_with (go_at_call 10; refine (kv_no _ _ H.out).mono ?_; rintro e w' ⟨rfl, rfl⟩)
    go_ret2
    exact ⟨rfl, rfl⟩
  · have H := Lib.hid (h.resolve_left hu)
    have h0 : 0 ≤ u := by omega
    have h1 : u < 1073741824 := by omega
    clear h hu
    go_enter Try.func12, Try.ntmps12
    go_wp2_with (first | (go_at_call 10; refine (kv_yes _ _ h0 h1).mono ?_; rintro e w' ⟨rfl, rfl⟩) | (go_at_call 19; refine (vertex_no _ _ H.out).mono ?_; rintro e w' ⟨rfl, rfl⟩))
    go_ret2
    exact ⟨rfl, rfl⟩
/-- wealdref01.Edge. -/
theorem re_yes (u v : Int) (w : World) (h0 : 0 ≤ u) (h1 : u < 1073741824) (h2 : 0 ≤ v) (h3 : v < 1073741824) : Calls Try.prog 13 #[.int .i64 u, .int .i64 v] w fun e w' => e = .returned (.tuple #[.int .u64 (u * 2147483648 + v + 1), .int .i64 0]) ∧ w = w' := by
  have h4 : u ≤ 1073741823 := by omega
  have h5 : v ≤ 1073741823 := by omega
  go_enter Try.func13, Try.ntmps13
  go_wp2
  go_ret2
  exact ⟨rfl, rfl⟩
theorem re_no (u v : Int) (w : World) (h : (u < 0 ∨ 1073741824 ≤ u) ∨ (v < 0 ∨ 1073741824 ≤ v)) : Calls Try.prog 13 #[.int .i64 u, .int .i64 v] w fun e w' => e = .returned (.tuple #[.int .u64 0, .int .i64 4]) ∧ w = w' := by
  by_cases a1 : u < 0
  · clear h
    go_enter Try.func13, Try.ntmps13
    go_wp2
    go_ret2
    exact ⟨rfl, rfl⟩
  by_cases a2 : 1073741823 < u
  · clear h
    have a1' : 0 ≤ u := by omega
    go_enter Try.func13, Try.ntmps13
    go_wp2
    go_ret2
    exact ⟨rfl, rfl⟩
  by_cases a3 : v < 0
  · clear h
    have a1' : 0 ≤ u := by omega
    have a2' : u ≤ 1073741823 := by omega
    go_enter Try.func13, Try.ntmps13
    go_wp2
    go_ret2
    exact ⟨rfl, rfl⟩
  · have a1' : 0 ≤ u := by omega
    have a2' : u ≤ 1073741823 := by omega
    have a3' : 0 ≤ v := by omega
    have a4 : 1073741823 < v := by omega
    clear h
    go_enter Try.func13, Try.ntmps13
    go_wp2
    go_ret2
    exact ⟨rfl, rfl⟩
/-- A number that is a key. -/
def Key (k : Int) : Prop := k / 2147483648 < 1073741824 ∧ k % 2147483648 ≤ 1073741824
/-- key.Right. -/
theorem kr_yes (k : Int) (w : World) (h0 : 0 ≤ k) (h1 : k < 18446744073709551616) (h : Key k) : Calls Try.prog 15 #[.int .u64 k] w fun e w' => e = .returned (.bool true) ∧ w = w' := by
  have ha := and31 k h0 h1
  obtain ⟨h2, h3⟩ := h
  go_enter Try.func15, Try.ntmps15
  go_wp2
  go_ret
  exact ⟨rfl, rfl⟩
theorem kr_no (k : Int) (w : World) (h0 : 0 ≤ k) (h1 : k < 18446744073709551616) (h : ¬ Key k) : Calls Try.prog 15 #[.int .u64 k] w fun e w' => e = .returned (.bool false) ∧ w = w' := by
  have ha := and31 k h0 h1
  by_cases h2 : k / 2147483648 < 1073741824
  · have h3 : decide (k % 2147483648 ≤ 1073741824) = false := by simp; unfold Key at h; omega
    clear h
    go_enter Try.func15, Try.ntmps15
    go_wp2
    go_ret
    exact ⟨rfl, rfl⟩
  · have h2' : decide (k / 2147483648 < 1073741824) = false := by simp; omega
    clear h h2
    go_enter Try.func15, Try.ntmps15
    go_wp2
    go_ret
    exact ⟨rfl, rfl⟩
/-- wealdref01.Right. -/
theorem rr_yes (k : Int) (w : World) (h0 : 0 ≤ k) (h1 : k < 18446744073709551616) (h : Key k) : Calls Try.prog 14 #[.int .u64 k] w fun e w' => e = .returned (.bool true) ∧ w = w' := by
  obtain ⟨h2, h3⟩ := h
  have h2' : k / 2147483648 ≤ 1073741823 := by omega
  go_enter Try.func14, Try.ntmps14
  go_wp2
  go_ret
  exact ⟨rfl, rfl⟩
theorem rr_no (k : Int) (w : World) (h0 : 0 ≤ k) (h1 : k < 18446744073709551616) (h : ¬ Key k) : Calls Try.prog 14 #[.int .u64 k] w fun e w' => e = .returned (.bool false) ∧ w = w' := by
  by_cases h2 : k / 2147483648 ≤ 1073741823
  · have h3 : decide (k % 2147483648 ≤ 1073741824) = false := by simp; unfold Key at h; omega
    clear h
    go_enter Try.func14, Try.ntmps14
    go_wp2
    go_ret
    exact ⟨rfl, rfl⟩
  · have h2' : decide (k / 2147483648 ≤ 1073741823) = false := by simp; omega
    clear h h2
    go_enter Try.func14, Try.ntmps14
    go_wp2
    go_ret
    exact ⟨rfl, rfl⟩
/-- key.Split, wealdref01.Split. -/
theorem ks_any (k : Int) (w : World) (h0 : 0 ≤ k) (h1 : k < 18446744073709551616) : Calls Try.prog 16 #[.int .u64 k] w fun e w' => e = .returned (.tuple #[.int .i64 (k / 2147483648), .int .i64 (k % 2147483648 - 1)]) ∧ w = w' := by
  have ha := and31 k h0 h1
  go_enter Try.func16, Try.ntmps16
  go_wp2
  go_ret2
  exact ⟨rfl, rfl⟩
theorem rs_any (k : Int) (w : World) (h0 : 0 ≤ k) (h1 : k < 18446744073709551616) : Calls Try.prog 17 #[.int .u64 k] w fun e w' => e = .returned (.tuple #[.int .i64 (k / 2147483648), .int .i64 (k % 2147483648 - 1)]) ∧ w = w' := by
  go_enter Try.func17, Try.ntmps17
  go_wp2
  go_ret2
  exact ⟨rfl, rfl⟩
end Go.Proofs.Ytgaoebeanjgnaaa
