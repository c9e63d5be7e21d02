/- The document's examples of keys, at the head of every statement: they answer true. -/
import Derived.Test.YtgaoebeanjgnaaaWalks
namespace Go.Proofs.Ytgaoebeanjgnaaa
open Go.RowKit

theorem key_a : Key 6442450944 := by unfold Key; decide
theorem key_b : ¬ Key 4611686018427387904 := by unfold Key; decide
theorem s1 (w : World) : Calls Try.prog 16 #[.int .u64 6442450945] w fun e w' => e = .returned (.tuple #[.int .i64 3, .int .i64 0]) ∧ w = w' :=
  (ks_any 6442450945 w (by decide) (by decide)).mono fun e w' ⟨he, hw⟩ => ⟨he, hw⟩
theorem s2 (w : World) : Calls Try.prog 16 #[.int .u64 6442450944] w fun e w' => e = .returned (.tuple #[.int .i64 3, .int .i64 (-1)]) ∧ w = w' :=
  (ks_any 6442450944 w (by decide) (by decide)).mono fun e w' ⟨he, hw⟩ => ⟨he, hw⟩
theorem v1 (w : World) : Calls Try.prog 10 #[.int .i64 3] w fun e w' => e = .returned (.tuple #[.int .u64 6442450944, .int .i64 0]) ∧ w = w' := kv_yes 3 w (by decide) (by decide)
theorem v2 (w : World) : Calls Try.prog 10 #[.int .i64 (-1)] w fun e w' => e = .returned (.tuple #[.int .u64 0, .int .i64 4]) ∧ w = w' := kv_no (-1) w (by decide)
theorem e1 (w : World) : Calls Try.prog 12 #[.int .i64 3, .int .i64 0] w fun e w' => e = .returned (.tuple #[.int .u64 6442450945, .int .i64 0]) ∧ w = w' := ke_yes 3 0 w (by decide) (by decide) (by decide) (by decide)
theorem e2 (w : World) : Calls Try.prog 12 #[.int .i64 3, .int .i64 1073741824] w fun e w' => e = .returned (.tuple #[.int .u64 0, .int .i64 4]) ∧ w = w' := ke_no 3 1073741824 w (by decide)
theorem r1 (w : World) : Calls Try.prog 15 #[.int .u64 6442450944] w fun e w' => e = .returned (.bool true) ∧ w = w' := kr_yes _ w (by decide) (by decide) key_a
theorem r2 (w : World) : Calls Try.prog 15 #[.int .u64 4611686018427387904] w fun e w' => e = .returned (.bool false) ∧ w = w' := kr_no _ w (by decide) (by decide) key_b

theorem shown_any (w : World) : Calls Try.prog 9 #[] w fun e w' => e = .returned (.bool true) ∧ w = w' := by
  go_enter Try.func9, Try.ntmps9
  go_wp2_with (first
    | (go_at_call 10; ((with_reducible refine (v1 _).mono ?_); rintro e w' ⟨rfl, rfl⟩))
    | (go_at_call 10; ((with_reducible refine (v2 _).mono ?_); rintro e w' ⟨rfl, rfl⟩))
    | (go_at_call 12; ((with_reducible refine (e1 _).mono ?_); rintro e w' ⟨rfl, rfl⟩))
    | (go_at_call 12; ((with_reducible refine (e2 _).mono ?_); rintro e w' ⟨rfl, rfl⟩))
    | (go_at_call 16; ((with_reducible refine (s1 _).mono ?_); rintro e w' ⟨rfl, rfl⟩))
    | (go_at_call 16; ((with_reducible refine (s2 _).mono ?_); rintro e w' ⟨rfl, rfl⟩))
    | (go_at_call 15; ((with_reducible refine (r1 _).mono ?_); rintro e w' ⟨rfl, rfl⟩))
    | (go_at_call 15; ((with_reducible refine (r2 _).mono ?_); rintro e w' ⟨rfl, rfl⟩)))
  go_ret
  exact ⟨rfl, rfl⟩
end Go.Proofs.Ytgaoebeanjgnaaa
