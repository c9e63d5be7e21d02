/- The walk through the statement KeyOrder, one of nine cases: how the first words stand, how the other ends stand. -/
import Derived.Test.YtgaoebeanjgnaaaNames
import Derived.BigGuardPart
namespace Go.Proofs.Ytgaoebeanjgnaaa
open Go.RowKit

set_option maxHeartbeats 8000000 in
theorem order_lg (u v x y : Int) (w : World) (hu : 0 ≤ u ∧ u < 1073741824) (hv : 0 ≤ v ∧ v < 1073741824) (hx : 0 ≤ x ∧ x < 1073741824) (hy : 0 ≤ y ∧ y < 1073741824) (cuy : u < y) (cvx : x < v) :
    Calls Try.prog 5 #[.agg #[.int .i64 u, .int .i64 v, .int .i64 x, .int .i64 y]] w fun e w' => e = .returned (.bool true) ∧ Below w.heap.size w w' := by
  have Hu := Lib.hid hu
  have Hv := Lib.hid hv
  have Hx := Lib.hid hx
  have Hy := Lib.hid hy
  have f1 : decide (KV u < KE u v) = true := by (try unfold KV); (try unfold KE); simp; try omega
  have f2 : decide (KE u v < KE u x) = false := by (try unfold KV); (try unfold KE); simp; try omega
  have f3 : decide (v < x) = false := by (try unfold KV); (try unfold KE); simp; try omega
  have f4 : (KE u v == KE u x) = false := by (try unfold KV); (try unfold KE); simp; try omega
  have f5 : (v == x) = false := by (try unfold KV); (try unfold KE); simp; try omega
  have f6 : decide (y ≤ u) = false := by (try unfold KV); (try unfold KE); simp; try omega
  have f7 : decide (KE u v < KV y) = true := by (try unfold KV); (try unfold KE); simp; try omega
  have f8 : decide (KE u v < KE y x) = true := by (try unfold KV); (try unfold KE); simp; try omega
  have f9 : decide (u ≤ y) = true := by (try unfold KV); (try unfold KE); simp; try omega
  have f10 : (u != y) = true := by (try unfold KV); (try unfold KE); simp; try omega
  clear hu hv hx hy cuy cvx
  go_enter Try.func5, Try.ntmps5
  simp only [List.append_eq, List.cons_append, List.nil_append]
  go_big_wp2_with (first
    | (go_at_call 9; ((with_reducible refine (shown_any _).mono ?_); rintro e w' ⟨rfl, rfl⟩))
    | (go_at_call 18; ((with_reducible refine (is_yes u _ Hu.out.1 Hu.out.2).mono ?_); rintro e w' ⟨rfl, rfl⟩))
    | (go_at_call 18; ((with_reducible refine (is_yes v _ Hv.out.1 Hv.out.2).mono ?_); rintro e w' ⟨rfl, rfl⟩))
    | (go_at_call 18; ((with_reducible refine (is_yes x _ Hx.out.1 Hx.out.2).mono ?_); rintro e w' ⟨rfl, rfl⟩))
    | (go_at_call 18; ((with_reducible refine (is_yes y _ Hy.out.1 Hy.out.2).mono ?_); rintro e w' ⟨rfl, rfl⟩))
    | (go_at_call 10; ((with_reducible refine (nv_yes u _ Hu.out.1 Hu.out.2).mono ?_); rintro e w' ⟨rfl, rfl⟩))
    | (go_at_call 10; ((with_reducible refine (nv_yes y _ Hy.out.1 Hy.out.2).mono ?_); rintro e w' ⟨rfl, rfl⟩))
    | (go_at_call 12; ((with_reducible refine (ne_yes u v _ Hu.out.1 Hu.out.2 Hv.out.1 Hv.out.2).mono ?_); rintro e w' ⟨rfl, rfl⟩))
    | (go_at_call 12; ((with_reducible refine (ne_yes u x _ Hu.out.1 Hu.out.2 Hx.out.1 Hx.out.2).mono ?_); rintro e w' ⟨rfl, rfl⟩))
    | (go_at_call 12; ((with_reducible refine (ne_yes y x _ Hy.out.1 Hy.out.2 Hx.out.1 Hx.out.2).mono ?_); rintro e w' ⟨rfl, rfl⟩)))
  go_ret
  exact ⟨rfl, (Below.refl _ _).alloc (Nat.le_refl _) _⟩
end Go.Proofs.Ytgaoebeanjgnaaa
