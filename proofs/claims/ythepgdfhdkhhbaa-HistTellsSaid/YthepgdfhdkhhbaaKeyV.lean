/- The keys' contracts. -/
import Derived.Test.YthepgdfhdkhhbaaBase
import Derived.Outline
namespace Go.Proofs.Ythepgdfhdkhhbaa
open Go.RowKit

theorem vertex_yes (u : Int) (w : World) (h0 : 0 ≤ u) (h1 : u < 1073741824) : Calls Try.prog 57 #[.int .i64 u] w fun e w' => e = .returned (.bool true) ∧ w = w' := by
  go_enter Try.func57, Try.ntmps57
  go_wp2
  go_ret
  exact ⟨rfl, rfl⟩
theorem vertex_no (u : Int) (w : World) (h : u < 0 ∨ 1073741824 ≤ u) : Calls Try.prog 57 #[.int .i64 u] w fun e w' => e = .returned (.bool false) ∧ w = w' := by
  rcases h with h | h
  · go_enter Try.func57, Try.ntmps57
    go_wp2
    go_ret
    exact ⟨rfl, rfl⟩
  · have hd : decide (u < 1073741824) = false := by simp; omega
    have h0 : 0 ≤ u := by omega
    go_enter Try.func57, Try.ntmps57
    go_wp2
    go_ret
    exact ⟨rfl, rfl⟩
/-- wealdref01.Is. -/
theorem is_yes (u : Int) (w : World) (h0 : 0 ≤ u) (h1 : u < 1073741824) : Calls Try.prog 24 #[.int .i64 u] w fun e w' => e = .returned (.bool true) ∧ w = w' := by
  have h2 : u ≤ 1073741823 := by omega
  go_enter Try.func24, Try.ntmps24
  go_wp2
  go_ret
  exact ⟨rfl, rfl⟩
theorem is_no (u : Int) (w : World) (h : u < 0 ∨ 1073741824 ≤ u) : Calls Try.prog 24 #[.int .i64 u] w fun e w' => e = .returned (.bool false) ∧ w = w' := by
  rcases h with h | h
  · go_enter Try.func24, Try.ntmps24
    go_wp2
    go_ret
    exact ⟨rfl, rfl⟩
  · have hd : decide (u ≤ 1073741823) = false := by simp; omega
    have h0 : 0 ≤ u := by omega
    go_enter Try.func24, Try.ntmps24
    go_wp2
    go_ret
    exact ⟨rfl, rfl⟩
/-- key.Vertex. -/
theorem kv_yes (u : Int) (w : World) (h0 : 0 ≤ u) (h1 : u < 1073741824) : Calls Try.prog 43 #[.int .i64 u] w fun e w' => e = .returned (.tuple #[.int .u64 (u * 2147483648), .int .i64 0]) ∧ w = w' := by
  go_enter Try.func43, Try.ntmps43
  go_wp2_with (go_at_call 57; refine (vertex_yes _ _ h0 h1).mono ?_; rintro e w' ⟨rfl, rfl⟩)
  go_ret2
  exact ⟨rfl, rfl⟩
theorem kv_no (u : Int) (w : World) (h : u < 0 ∨ 1073741824 ≤ u) : Calls Try.prog 43 #[.int .i64 u] w fun e w' => e = .returned (.tuple #[.int .u64 0, .int .i64 4]) ∧ w = w' := by
  have H := Lib.hid h
  clear h
  go_enter Try.func43, Try.ntmps43
  go_wp2_with (go_at_call 57; refine (vertex_no _ _ H.out).mono ?_; rintro e w' ⟨rfl, rfl⟩)
  go_ret2
  exact ⟨rfl, rfl⟩
/-- May it be a vertex? -/
def isV (u : Int) : Bool := decide (0 ≤ u ∧ u < 1073741824)
theorem isV_t {u : Int} (h : isV u = true) : 0 ≤ u ∧ u < 1073741824 := of_decide_eq_true h
theorem isV_f {u : Int} (h : isV u = false) : u < 0 ∨ 1073741824 ≤ u := by have := of_decide_eq_false h; omega
def errV (b : Bool) : Int := if b then 0 else 4
theorem is_any (u : Int) (w : World) : Calls Try.prog 24 #[.int .i64 u] w fun e w' => e = .returned (.bool (isV u)) ∧ w = w' := by
  cases h : isV u
  · exact is_no u w (isV_f h)
  · exact is_yes u w (isV_t h).1 (isV_t h).2
theorem vertex_any (u : Int) (w : World) : Calls Try.prog 43 #[.int .i64 u] w fun e w' => (∃ k, e = .returned (.tuple #[.int .u64 k, .int .i64 (errV (isV u))])) ∧ w = w' := by
  cases h : isV u
  · exact (kv_no u w (isV_f h)).mono fun e w' hh => ⟨⟨_, hh.1⟩, hh.2⟩
  · exact (kv_yes u w (isV_t h).1 (isV_t h).2).mono fun e w' hh => ⟨⟨_, hh.1⟩, hh.2⟩
theorem errT : errV true = 0 := by unfold errV; simp
theorem errF : errV false = 4 := by unfold errV; simp
attribute [irreducible] isV errV
end Go.Proofs.Ythepgdfhdkhhbaa
