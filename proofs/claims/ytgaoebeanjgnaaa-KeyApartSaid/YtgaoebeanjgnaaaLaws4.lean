/- The walk through the statement KeyApart. -/
import Derived.Test.YtgaoebeanjgnaaaNames
namespace Go.Proofs.Ytgaoebeanjgnaaa
open Go.RowKit

set_option maxHeartbeats 3200000 in
theorem apart_walk_no (u v x y : Int) (w : World) (h : ¬ ((0 ≤ u ∧ u < 1073741824) ∧ (0 ≤ v ∧ v < 1073741824) ∧ (0 ≤ x ∧ x < 1073741824) ∧ (0 ≤ y ∧ y < 1073741824))) :
    Calls Try.prog 6 #[.agg #[.int .i64 u, .int .i64 v, .int .i64 x, .int .i64 y]] w fun e w' => e = .returned (.bool true) ∧ Below w.heap.size w w' := by
  by_cases hu : 0 ≤ u ∧ u < 1073741824
  rotate_left
  · have Hu := Lib.hid (show u < 0 ∨ 1073741824 ≤ u from by omega)
    clear hu
    go_enter Try.func6, Try.ntmps6
    go_wp2_with (first
      | (go_at_call 9; ((with_reducible refine (shown_any _).mono ?_); rintro e w' ⟨rfl, rfl⟩))
      | (go_at_call 18; ((with_reducible refine (is_no u _ Hu.out).mono ?_); rintro e w' ⟨rfl, rfl⟩)))
    go_ret
    exact ⟨rfl, (Below.refl _ _).alloc (Nat.le_refl _) _⟩
  have Hu := Lib.hid hu
  clear hu
  by_cases hv : 0 ≤ v ∧ v < 1073741824
  rotate_left
  · have Hv := Lib.hid (show v < 0 ∨ 1073741824 ≤ v from by omega)
    clear hv
    go_enter Try.func6, Try.ntmps6
    go_wp2_with (first
      | (go_at_call 9; ((with_reducible refine (shown_any _).mono ?_); rintro e w' ⟨rfl, rfl⟩))
      | (go_at_call 18; ((with_reducible refine (is_yes u _ Hu.out.1 Hu.out.2).mono ?_); rintro e w' ⟨rfl, rfl⟩))
      | (go_at_call 18; ((with_reducible refine (is_no v _ Hv.out).mono ?_); rintro e w' ⟨rfl, rfl⟩)))
    go_ret
    exact ⟨rfl, (Below.refl _ _).alloc (Nat.le_refl _) _⟩
  have Hv := Lib.hid hv
  clear hv
  by_cases hx : 0 ≤ x ∧ x < 1073741824
  rotate_left
  · have Hx := Lib.hid (show x < 0 ∨ 1073741824 ≤ x from by omega)
    clear hx
    go_enter Try.func6, Try.ntmps6
    go_wp2_with (first
      | (go_at_call 9; ((with_reducible refine (shown_any _).mono ?_); rintro e w' ⟨rfl, rfl⟩))
      | (go_at_call 18; ((with_reducible refine (is_yes u _ Hu.out.1 Hu.out.2).mono ?_); rintro e w' ⟨rfl, rfl⟩))
      | (go_at_call 18; ((with_reducible refine (is_yes v _ Hv.out.1 Hv.out.2).mono ?_); rintro e w' ⟨rfl, rfl⟩))
      | (go_at_call 18; ((with_reducible refine (is_no x _ Hx.out).mono ?_); rintro e w' ⟨rfl, rfl⟩)))
    go_ret
    exact ⟨rfl, (Below.refl _ _).alloc (Nat.le_refl _) _⟩
  have Hx := Lib.hid hx
  clear hx
  by_cases hy : 0 ≤ y ∧ y < 1073741824
  rotate_left
  · have Hy := Lib.hid (show y < 0 ∨ 1073741824 ≤ y from by omega)
    clear hy
    go_enter Try.func6, Try.ntmps6
    go_wp2_with (first
      | (go_at_call 9; ((with_reducible refine (shown_any _).mono ?_); rintro e w' ⟨rfl, rfl⟩))
      | (go_at_call 18; ((with_reducible refine (is_yes u _ Hu.out.1 Hu.out.2).mono ?_); rintro e w' ⟨rfl, rfl⟩))
      | (go_at_call 18; ((with_reducible refine (is_yes v _ Hv.out.1 Hv.out.2).mono ?_); rintro e w' ⟨rfl, rfl⟩))
      | (go_at_call 18; ((with_reducible refine (is_yes x _ Hx.out.1 Hx.out.2).mono ?_); rintro e w' ⟨rfl, rfl⟩))
      | (go_at_call 18; ((with_reducible refine (is_no y _ Hy.out).mono ?_); rintro e w' ⟨rfl, rfl⟩)))
    go_ret
    exact ⟨rfl, (Below.refl _ _).alloc (Nat.le_refl _) _⟩
  have Hy := Lib.hid hy
  clear hy
  exact absurd ⟨Hu.out, Hv.out, Hx.out, Hy.out⟩ h
set_option maxHeartbeats 1600000 in
theorem apart_walk_0 (u v x y : Int) (w : World) (hu : 0 ≤ u ∧ u < 1073741824) (hv : 0 ≤ v ∧ v < 1073741824) (hx : 0 ≤ x ∧ x < 1073741824) (hy : 0 ≤ y ∧ y < 1073741824) :
    Calls Try.prog 6 #[.agg #[.int .i64 u, .int .i64 v, .int .i64 x, .int .i64 y]] w fun e w' => e = .returned (.bool true) ∧ Below w.heap.size w w' := by
  have Hu := Lib.hid hu
  have Hv := Lib.hid hv
  have Hx := Lib.hid hx
  have Hy := Lib.hid hy
  have a1 : (KE u v - KE u x) = v - x := by unfold KE; omega
  have a2 : (KE u v - KE y v) = KV u - KV y := by unfold KE KV; omega
  have a3 : KE u v - KV u = v + 1 := by unfold KE KV; omega
  obtain ⟨u0, u1⟩ := hu
  obtain ⟨v0, v1⟩ := hv
  obtain ⟨x0, x1⟩ := hx
  obtain ⟨y0, y1⟩ := hy
  have hun : ∀ b : Bool, some undef = some (Value.bool b) → False := fun b h => by injection h with h; unfold undef at h; injection h
  go_enter Try.func6, Try.ntmps6
  go_wp2_with (first
    | (go_at_call 9; ((with_reducible refine (shown_any _).mono ?_); rintro e w' ⟨rfl, rfl⟩))
    | (go_at_call 18; ((with_reducible refine (is_yes u _ Hu.out.1 Hu.out.2).mono ?_); rintro e w' ⟨rfl, rfl⟩))
    | (go_at_call 18; ((with_reducible refine (is_yes v _ Hv.out.1 Hv.out.2).mono ?_); rintro e w' ⟨rfl, rfl⟩))
    | (go_at_call 18; ((with_reducible refine (is_yes x _ Hx.out.1 Hx.out.2).mono ?_); rintro e w' ⟨rfl, rfl⟩))
    | (go_at_call 18; ((with_reducible refine (is_yes y _ Hy.out.1 Hy.out.2).mono ?_); rintro e w' ⟨rfl, rfl⟩))
    | (go_at_call 12; ((with_reducible refine (ne_yes u v _ Hu.out.1 Hu.out.2 Hv.out.1 Hv.out.2).mono ?_); rintro e w' ⟨rfl, rfl⟩))
    | (go_at_call 12; ((with_reducible refine (ne_yes u x _ Hu.out.1 Hu.out.2 Hx.out.1 Hx.out.2).mono ?_); rintro e w' ⟨rfl, rfl⟩))
    | (go_at_call 12; ((with_reducible refine (ne_yes y v _ Hy.out.1 Hy.out.2 Hv.out.1 Hv.out.2).mono ?_); rintro e w' ⟨rfl, rfl⟩))
    | (go_at_call 10; ((with_reducible refine (nv_yes u _ Hu.out.1 Hu.out.2).mono ?_); rintro e w' ⟨rfl, rfl⟩))
    | (go_at_call 10; ((with_reducible refine (nv_yes y _ Hy.out.1 Hy.out.2).mono ?_); rintro e w' ⟨rfl, rfl⟩)))
  all_goals go_ret
  all_goals exact ⟨rfl, (Below.refl _ _).alloc (Nat.le_refl _) _⟩
theorem apart_walk (u v x y : Int) (w : World) : 
    Calls Try.prog 6 #[.agg #[.int .i64 u, .int .i64 v, .int .i64 x, .int .i64 y]] w fun e w' => e = .returned (.bool true) ∧ Below w.heap.size w w' := by
  by_cases h : ((0 ≤ u ∧ u < 1073741824) ∧ (0 ≤ v ∧ v < 1073741824) ∧ (0 ≤ x ∧ x < 1073741824) ∧ (0 ≤ y ∧ y < 1073741824))
  rotate_left
  · exact apart_walk_no u v x y w h
  obtain ⟨hu, hv, hx, hy⟩ := h
  exact apart_walk_0 u v x y w hu hv hx hy
end Go.Proofs.Ytgaoebeanjgnaaa
