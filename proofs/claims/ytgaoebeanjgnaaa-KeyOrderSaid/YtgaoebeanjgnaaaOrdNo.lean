/- The walk through the statement KeyOrder where one of the numbers is none of a vertex. -/
import Derived.Test.YtgaoebeanjgnaaaNames
namespace Go.Proofs.Ytgaoebeanjgnaaa
open Go.RowKit

set_option maxHeartbeats 3200000 in
theorem order_walk_no (u v x y : Int) (w : World) (h : ¬ ((0 ≤ u ∧ u < 1073741824) ∧ (0 ≤ v ∧ v < 1073741824) ∧ (0 ≤ x ∧ x < 1073741824) ∧ (0 ≤ y ∧ y < 1073741824))) :
    Calls Try.prog 5 #[.agg #[.int .i64 u, .int .i64 v, .int .i64 x, .int .i64 y]] w fun e w' => e = .returned (.bool true) ∧ Below w.heap.size w w' := by
  by_cases hu : 0 ≤ u ∧ u < 1073741824
  rotate_left
  · have Hu := Lib.hid (show u < 0 ∨ 1073741824 ≤ u from by omega)
    clear hu
    go_enter Try.func5, Try.ntmps5
    go_wp2_with (first
      | (go_at_call 9; ((with_reducible refine (shown_any _).mono ?_); rintro e w' ⟨rfl, rfl⟩))
      | (go_at_call 18; ((with_reducible refine (is_no u _ Hu.out).mono ?_); rintro e w' ⟨rfl, rfl⟩)))
    go_ret
    exact ⟨rfl, (Below.refl _ _).alloc (Nat.le_refl _) _⟩
  have Hu := Lib.hid hu
  clear hu
  by_cases hv : 0 ≤ v ∧ v < 1073741824
  rotate_left
  · have Hv := Lib.hid (show v < 0 ∨ 1073741824 ≤ v from by omega)
    clear hv
    go_enter Try.func5, Try.ntmps5
    go_wp2_with (first
      | (go_at_call 9; ((with_reducible refine (shown_any _).mono ?_); rintro e w' ⟨rfl, rfl⟩))
      | (go_at_call 18; ((with_reducible refine (is_yes u _ Hu.out.1 Hu.out.2).mono ?_); rintro e w' ⟨rfl, rfl⟩))
      | (go_at_call 18; ((with_reducible refine (is_no v _ Hv.out).mono ?_); rintro e w' ⟨rfl, rfl⟩)))
    go_ret
    exact ⟨rfl, (Below.refl _ _).alloc (Nat.le_refl _) _⟩
  have Hv := Lib.hid hv
  clear hv
  by_cases hx : 0 ≤ x ∧ x < 1073741824
  rotate_left
  · have Hx := Lib.hid (show x < 0 ∨ 1073741824 ≤ x from by omega)
    clear hx
    go_enter Try.func5, Try.ntmps5
    go_wp2_with (first
      | (go_at_call 9; ((with_reducible refine (shown_any _).mono ?_); rintro e w' ⟨rfl, rfl⟩))
      | (go_at_call 18; ((with_reducible refine (is_yes u _ Hu.out.1 Hu.out.2).mono ?_); rintro e w' ⟨rfl, rfl⟩))
      | (go_at_call 18; ((with_reducible refine (is_yes v _ Hv.out.1 Hv.out.2).mono ?_); rintro e w' ⟨rfl, rfl⟩))
      | (go_at_call 18; ((with_reducible refine (is_no x _ Hx.out).mono ?_); rintro e w' ⟨rfl, rfl⟩)))
    go_ret
    exact ⟨rfl, (Below.refl _ _).alloc (Nat.le_refl _) _⟩
  have Hx := Lib.hid hx
  clear hx
  by_cases hy : 0 ≤ y ∧ y < 1073741824
  rotate_left
  · have Hy := Lib.hid (show y < 0 ∨ 1073741824 ≤ y from by omega)
    clear hy
    go_enter Try.func5, Try.ntmps5
    go_wp2_with (first
      | (go_at_call 9; ((with_reducible refine (shown_any _).mono ?_); rintro e w' ⟨rfl, rfl⟩))
      | (go_at_call 18; ((with_reducible refine (is_yes u _ Hu.out.1 Hu.out.2).mono ?_); rintro e w' ⟨rfl, rfl⟩))
      | (go_at_call 18; ((with_reducible refine (is_yes v _ Hv.out.1 Hv.out.2).mono ?_); rintro e w' ⟨rfl, rfl⟩))
      | (go_at_call 18; ((with_reducible refine (is_yes x _ Hx.out.1 Hx.out.2).mono ?_); rintro e w' ⟨rfl, rfl⟩))
      | (go_at_call 18; ((with_reducible refine (is_no y _ Hy.out).mono ?_); rintro e w' ⟨rfl, rfl⟩)))
    go_ret
    exact ⟨rfl, (Below.refl _ _).alloc (Nat.le_refl _) _⟩
  have Hy := Lib.hid hy
  clear hy
  exact absurd ⟨Hu.out, Hv.out, Hx.out, Hy.out⟩ h
end Go.Proofs.Ytgaoebeanjgnaaa
