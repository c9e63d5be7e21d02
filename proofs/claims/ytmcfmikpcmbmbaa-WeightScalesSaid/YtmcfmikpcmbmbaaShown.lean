/- The document's examples, at the head of every statement: they answer true. -/
import Derived.Test.YtmcfmikpcmbmbaaKind
import Derived.Deep.RegionHeld3
namespace Go.Proofs.Ytmcfmikpcmbmbaa
open Go.RowKit

/-- Three words in the new block, the rest as it was. -/
def Sh (l : List Int) (w w' : World) : Prop := Words w' (some ⟨w.heap.size, 0, none⟩) l ∧ Below w.heap.size w w'
theorem Sh.start (a b c : Int) (hb : ∀ n ∈ [a, b, c], 0 ≤ n ∧ n < 18446744073709551616) (w : World) : Sh [a, b, c] w (w.alloc (.cells #[.int .u64 a, .int .u64 b, .int .u64 c] 22)) := by
  refine ⟨⟨by simp, hb, fun _ => ⟨_, _, rfl, fun i hi => ?_⟩⟩, ((Below.refl _ _).alloc (Nat.le_refl _) _)⟩
  have hi' : i < 3 := hi
  have : i = 0 ∨ i = 1 ∨ i = 2 := by omega
  rcases this with rfl | rfl | rfl <;> (rw [World.cell?_alloc_mark]; rfl)

def three : List Int := [0, 9223372036854775808, 4607182418800017408]
theorem g_three (a b c : Int) : greatest [a, b, c] = up (up a b) c := by
  unfold greatest
  rw [show [a, b, c].length = 2 + 1 from rfl, top_succ _ _ (by omega), top_succ _ _ (by omega), show top [a, b, c] 1 = a from by unfold top; rfl]
  rfl
theorem g3 : greatest three = 4607182418800017408 := by unfold three; rw [g_three]; unfold up lessB pl; decide
theorem h3 : hasB three = true := by unfold hasB; decide
theorem c1 {w w' : World} (h : Sh three w w') : Calls Try.prog 12 #[.slice (some ⟨w.heap.size, 0, none⟩) 3 3] w' fun e w'' => e = .returned (.tuple #[.int .u64 4607182418800017408, .bool true]) ∧ w' = w'' := by
  have := greatest_any (some ⟨w.heap.size, 0, none⟩) 3 3 three rfl w' h.1
  rwa [g3, h3] at this
theorem c2 (w : World) : Calls Try.prog 12 #[.slice none 0 0] w fun e w'' => e = .returned (.tuple #[.int .u64 0, .bool false]) ∧ w = w'' := by
  have := greatest_any none 0 0 [] rfl w ⟨by decide, by simp, fun h => by simp at h⟩
  rwa [show greatest [] = 0 from by unfold greatest top; rfl, show hasB [] = false from by unfold hasB; decide] at this
theorem less_ab (w : World) : Calls Try.prog 16 #[.int .u64 9223372036854775808, .int .u64 0] w fun e w' => e = .returned (.bool true) ∧ w = w' := by
  have := less_any 9223372036854775808 0 w (by decide) (by decide) (by decide) (by decide)
  rwa [show lessB 9223372036854775808 0 = true from by unfold lessB pl; decide] at this
theorem less_ba (w : World) : Calls Try.prog 16 #[.int .u64 0, .int .u64 9223372036854775808] w fun e w' => e = .returned (.bool false) ∧ w = w' := by
  have := less_any 0 9223372036854775808 w (by decide) (by decide) (by decide) (by decide)
  rwa [show lessB 0 9223372036854775808 = false from by unfold lessB pl; decide] at this
theorem kind_at (b k : Int) (hk : kindI b = k) (w : World) (h0 : 0 ≤ b) (h1 : b < 18446744073709551616) : Calls Try.prog 14 #[.int .u64 b] w fun e w' => e = .returned (.int .i64 k) ∧ w = w' := by
  have := kind_any b w h0 h1
  rwa [hk] at this
theorem k1 (w : World) : Calls Try.prog 14 #[.int .u64 9223372036854775808] w fun e w' => e = .returned (.int .i64 0) ∧ w = w' := kind_at _ _ (by unfold kindI; decide) w (by decide) (by decide)
theorem k2 (w : World) : Calls Try.prog 14 #[.int .u64 1] w fun e w' => e = .returned (.int .i64 1) ∧ w = w' := kind_at _ _ (by unfold kindI; decide) w (by decide) (by decide)
theorem k3 (w : World) : Calls Try.prog 14 #[.int .u64 4607182418800017408] w fun e w' => e = .returned (.int .i64 2) ∧ w = w' := kind_at _ _ (by unfold kindI; decide) w (by decide) (by decide)
theorem k4 (w : World) : Calls Try.prog 14 #[.int .u64 9218868437227405312] w fun e w' => e = .returned (.int .i64 3) ∧ w = w' := kind_at _ _ (by unfold kindI; decide) w (by decide) (by decide)
theorem k5 (w : World) : Calls Try.prog 14 #[.int .u64 9221120237041090561] w fun e w' => e = .returned (.int .i64 4) ∧ w = w' := kind_at _ _ (by unfold kindI; decide) w (by decide) (by decide)
theorem b1 (w : World) : Calls Try.prog 18 #[.float .f64 4607182418800017408] w fun e w' => e = .returned (.int .u64 4607182418800017408) ∧ w = w' := bits_any _ w
theorem o1 (w : World) : Calls Try.prog 19 #[.int .u64 4611686018427387904] w fun e w' => e = .returned (.float .f64 4611686018427387904) ∧ w = w' := of_any _ w

theorem shown_any (w : World) : Calls Try.prog 11 #[] w fun e w' => e = .returned (.bool true) ∧ Below w.heap.size w w' := by
  have e2 : FloatKind.f64.format.order 4611686018427387904 4611686018427387904 = some .eq := (ord_of (r := 4611686018427387904) (s := 4611686018427387904) (by decide) (by decide) (by decide) (by decide)).trans (by rw [Int.compare_eq_eq.2 rfl])
  have HS := Lib.hid (show Sh three w _ from Sh.start 0 9223372036854775808 4607182418800017408 (by decide) w)
  go_enter Try.func11, Try.ntmps11
  go_wp2_with (first
    | (go_at_call 12; ((with_reducible refine (c1 (w := w) HS.out).mono ?_); rintro e w' ⟨rfl, rfl⟩))
    | (go_at_call 12; ((with_reducible refine (c2 _).mono ?_); rintro e w' ⟨rfl, rfl⟩))
    | (go_at_call 16; ((with_reducible refine (less_ab _).mono ?_); rintro e w' ⟨rfl, rfl⟩))
    | (go_at_call 16; ((with_reducible refine (less_ba _).mono ?_); rintro e w' ⟨rfl, rfl⟩))
    | (go_at_call 14; ((with_reducible refine (k1 _).mono ?_); rintro e w' ⟨rfl, rfl⟩))
    | (go_at_call 14; ((with_reducible refine (k2 _).mono ?_); rintro e w' ⟨rfl, rfl⟩))
    | (go_at_call 14; ((with_reducible refine (k3 _).mono ?_); rintro e w' ⟨rfl, rfl⟩))
    | (go_at_call 14; ((with_reducible refine (k4 _).mono ?_); rintro e w' ⟨rfl, rfl⟩))
    | (go_at_call 14; ((with_reducible refine (k5 _).mono ?_); rintro e w' ⟨rfl, rfl⟩))
    | (go_at_call 18; ((with_reducible refine (b1 _).mono ?_); rintro e w' ⟨rfl, rfl⟩))
    | (go_at_call 19; ((with_reducible refine (o1 _).mono ?_); rintro e w' ⟨rfl, rfl⟩)))
  go_ret
  exact ⟨rfl, HS.out.2⟩
end Go.Proofs.Ytmcfmikpcmbmbaa
