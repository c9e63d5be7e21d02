/- The keys' contracts, as the graph uses them. -/
import Derived.Test.YtmlcghbhkpbaeaaWalks1
import Derived.Outline
namespace Go.Proofs.Ytmlcghbhkpbaeaa
open Go.RowKit

theorem vertex_yes (u : Int) (w : World) (h0 : 0 ≤ u) (h1 : u < 1073741824) : Calls Try.prog 41 #[.int .i64 u] w fun e w' => e = .returned (.bool true) ∧ w = w' := by
  go_enter Try.func41, Try.ntmps41
  go_wp2
  go_ret
  exact ⟨rfl, rfl⟩
theorem vertex_no (u : Int) (w : World) (h : u < 0 ∨ 1073741824 ≤ u) : Calls Try.prog 41 #[.int .i64 u] w fun e w' => e = .returned (.bool false) ∧ w = w' := by
  rcases h with h | h
  · go_enter Try.func41, Try.ntmps41
    go_wp2
    go_ret
    exact ⟨rfl, rfl⟩
  · have hd : decide (u < 1073741824) = false := by simp; omega
    have h0 : 0 ≤ u := by omega
    go_enter Try.func41, Try.ntmps41
    go_wp2
    go_ret
    exact ⟨rfl, rfl⟩
/-- wealdref01.Is. -/
theorem is_yes (u : Int) (w : World) (h0 : 0 ≤ u) (h1 : u < 1073741824) : Calls Try.prog 13 #[.int .i64 u] w fun e w' => e = .returned (.bool true) ∧ w = w' := by
  have h2 : u ≤ 1073741823 := by omega
  go_enter Try.func13, Try.ntmps13
  go_wp2
  go_ret
  exact ⟨rfl, rfl⟩
theorem is_no (u : Int) (w : World) (h : u < 0 ∨ 1073741824 ≤ u) : Calls Try.prog 13 #[.int .i64 u] w fun e w' => e = .returned (.bool false) ∧ w = w' := by
  rcases h with h | h
  · go_enter Try.func13, Try.ntmps13
    go_wp2
    go_ret
    exact ⟨rfl, rfl⟩
  · have hd : decide (u ≤ 1073741823) = false := by simp; omega
    have h0 : 0 ≤ u := by omega
    go_enter Try.func13, Try.ntmps13
    go_wp2
    go_ret
    exact ⟨rfl, rfl⟩
/-- key.Vertex. -/
theorem kv_yes (u : Int) (w : World) (h0 : 0 ≤ u) (h1 : u < 1073741824) : Calls Try.prog 32 #[.int .i64 u] w fun e w' => e = .returned (.tuple #[.int .u64 (u * 2147483648), .int .i64 0]) ∧ w = w' := by
  go_enter Try.func32, Try.ntmps32
  go_wp2_with (go_at_call 41; refine (vertex_yes _ _ h0 h1).mono ?_; rintro e w' ⟨rfl, rfl⟩)
  go_ret2
  exact ⟨rfl, rfl⟩
theorem kv_no (u : Int) (w : World) (h : u < 0 ∨ 1073741824 ≤ u) : Calls Try.prog 32 #[.int .i64 u] w fun e w' => e = .returned (.tuple #[.int .u64 0, .int .i64 4]) ∧ w = w' := by
  have H := Lib.hid h
  clear h
  go_enter Try.func32, Try.ntmps32
  go_wp2_with (go_at_call 41; refine (vertex_no _ _ H.out).mono ?_; rintro e w' ⟨rfl, rfl⟩)
  go_ret2
  exact ⟨rfl, rfl⟩
/-- key.Edge. -/
theorem ke_yes (u v : Int) (w : World) (h0 : 0 ≤ u) (h1 : u < 1073741824) (h2 : 0 ≤ v) (h3 : v < 1073741824) : Calls Try.prog 33 #[.int .i64 u, .int .i64 v] w fun e w' => e = .returned (.tuple #[.int .u64 (u * 2147483648 + v + 1), .int .i64 0]) ∧ w = w' := by
  go_enter Try.func33, Try.ntmps33
  go_wp2_with (first | (go_at_call 32; refine (kv_yes _ _ h0 h1).mono ?_; rintro e w' ⟨rfl, rfl⟩) | (go_at_call 41; refine (vertex_yes _ _ h2 h3).mono ?_; rintro e w' ⟨rfl, rfl⟩))
  go_ret2
  exact ⟨rfl, rfl⟩
theorem ke_no (u v : Int) (w : World) (h : (u < 0 ∨ 1073741824 ≤ u) ∨ (v < 0 ∨ 1073741824 ≤ v)) : Calls Try.prog 33 #[.int .i64 u, .int .i64 v] w fun e w' => e = .returned (.tuple #[.int .u64 0, .int .i64 4]) ∧ w = w' := by
  by_cases hu : u < 0 ∨ 1073741824 ≤ u
  · have H := Lib.hid hu
    clear h hu
    go_enter Try.func33, Try.ntmps33
    go_wp2_with (go_at_call 32; refine (kv_no _ _ H.out).mono ?_; rintro e w' ⟨rfl, rfl⟩)
    go_ret2
    exact ⟨rfl, rfl⟩
  · have H := Lib.hid (h.resolve_left hu)
    have h0 : 0 ≤ u := by omega
    have h1 : u < 1073741824 := by omega
    clear h hu
    go_enter Try.func33, Try.ntmps33
    go_wp2_with (first | (go_at_call 32; refine (kv_yes _ _ h0 h1).mono ?_; rintro e w' ⟨rfl, rfl⟩) | (go_at_call 41; refine (vertex_no _ _ H.out).mono ?_; rintro e w' ⟨rfl, rfl⟩))
    go_ret2
    exact ⟨rfl, rfl⟩

/-- May it be a vertex? -/
def isV (u : Int) : Bool := decide (0 ≤ u ∧ u < 1073741824)
theorem isV_t {u : Int} (h : isV u = true) : 0 ≤ u ∧ u < 1073741824 := of_decide_eq_true h
theorem isV_f {u : Int} (h : isV u = false) : u < 0 ∨ 1073741824 ≤ u := by have := of_decide_eq_false h; omega
def errV (b : Bool) : Int := if b then 0 else 4
theorem is_any (u : Int) (w : World) : Calls Try.prog 13 #[.int .i64 u] w fun e w' => e = .returned (.bool (isV u)) ∧ w = w' := by
  cases h : isV u
  · exact is_no u w (isV_f h)
  · exact is_yes u w (isV_t h).1 (isV_t h).2
theorem vertex_any (u : Int) (w : World) : Calls Try.prog 32 #[.int .i64 u] w fun e w' => (∃ k, e = .returned (.tuple #[.int .u64 k, .int .i64 (errV (isV u))])) ∧ w = w' := by
  cases h : isV u
  · exact (kv_no u w (isV_f h)).mono fun e w' hh => ⟨⟨_, hh.1⟩, hh.2⟩
  · exact (kv_yes u w (isV_t h).1 (isV_t h).2).mono fun e w' hh => ⟨⟨_, hh.1⟩, hh.2⟩
theorem edge_any (u v : Int) (w : World) : Calls Try.prog 33 #[.int .i64 u, .int .i64 v] w fun e w' => (∃ k, e = .returned (.tuple #[.int .u64 k, .int .i64 (errV (isV u && isV v))])) ∧ w = w' := by
  cases h : isV u
  · exact (ke_no u v w (.inl (isV_f h))).mono fun e w' hh => ⟨⟨_, hh.1⟩, hh.2⟩
  · cases h2 : isV v
    · exact (ke_no u v w (.inr (isV_f h2))).mono fun e w' hh => ⟨⟨_, hh.1⟩, hh.2⟩
    · exact (ke_yes u v w (isV_t h).1 (isV_t h).2 (isV_t h2).1 (isV_t h2).2).mono fun e w' hh => ⟨⟨_, hh.1⟩, hh.2⟩
attribute [irreducible] isV errV
end Go.Proofs.Ytmlcghbhkpbaeaa
