/- GraphApart: the walk. -/
import Derived.Test.YtmlcghbhkpbaeaaStaysP
namespace Go.Proofs.Ytmlcghbhkpbaeaa
open Go.RowKit Aid

set_option maxRecDepth 100000 in
theorem apart_long (A : Option Addr) (c n : Nat) (ka ua va xa kb ub vb xb : Int) (w : World) (h : 40 < n) : Calls Try.prog 5 #[.slice A n c, .agg #[.int .i64 ka, .int .i64 ua, .int .i64 va, .int .u64 xa], .agg #[.int .i64 kb, .int .i64 ub, .int .i64 vb, .int .u64 xb]] w fun e w' => e = .returned (.bool true) ∧ Below w.heap.size w w' := by
  have T0 := Lib.hid (((Below.refl w.heap.size w).alloc (Nat.le_refl _) (.cells #[.int .i64 ka, .int .i64 ua, .int .i64 va, .int .u64 xa] 25)).alloc (by rw [World.size_alloc]; omega) (.cells #[.int .i64 kb, .int .i64 ub, .int .i64 vb, .int .u64 xb] 25))
  have D1 := Lib.hid (shown_any ((w.alloc (.cells #[.int .i64 ka, .int .i64 ua, .int .i64 va, .int .u64 xa] 25)).alloc (.cells #[.int .i64 kb, .int .i64 ub, .int .i64 vb, .int .u64 xb] 25)))
  have d1 : decide ((40 : Int) < (n : Int)) = true := by simp; omega
  have d2 : decide (40 < n) = true := by simp; omega
  go_enter Try.func5, Try.ntmps5
  go_wp2_with (first
    | (go_at_call 8; ((with_reducible refine D1.out.mono ?_); rintro e w1 ⟨rfl, hb⟩; have H1 := Lib.hid (T0.out.trans (hb.mono T0.out.size)); clear hb)))
  go_ret
  exact ⟨rfl, H1.out⟩
set_option maxRecDepth 100000 in
theorem apart_wrong (A : Option Addr) (c n : Nat) (g : List Arc) (ka ua va xa kb ub vb xb : Int) (w : World) (hn : n = g.length) (hl : Arcs w A g) (h40 : n ≤ 40) (hr : rightB g = false) : Calls Try.prog 5 #[.slice A n c, .agg #[.int .i64 ka, .int .i64 ua, .int .i64 va, .int .u64 xa], .agg #[.int .i64 kb, .int .i64 ub, .int .i64 vb, .int .u64 xb]] w fun e w' => e = .returned (.bool true) ∧ Below w.heap.size w w' := by
  have T0 := Lib.hid (((Below.refl w.heap.size w).alloc (Nat.le_refl _) (.cells #[.int .i64 ka, .int .i64 ua, .int .i64 va, .int .u64 xa] 25)).alloc (by rw [World.size_alloc]; omega) (.cells #[.int .i64 kb, .int .i64 ub, .int .i64 vb, .int .u64 xb] 25))
  have D1 := Lib.hid (shown_any ((w.alloc (.cells #[.int .i64 ka, .int .i64 ua, .int .i64 va, .int .u64 xa] 25)).alloc (.cells #[.int .i64 kb, .int .i64 ub, .int .i64 vb, .int .u64 xb] 25)))
  have d1 : decide ((40 : Int) < (n : Int)) = false := by simp; omega
  have d2 : decide (40 < n) = false := by simp; omega
  have HR : Hid (∀ W, Below w.heap.size w W → Calls Try.prog 9 #[.slice A n c] W fun e w' => e = .returned (.bool false) ∧ Below W.heap.size W w') := Lib.hid (fun W hW => right_eq c hn (hl.below hW (Nat.le_refl _)) (by omega) hr)
  clear hl hr hn
  go_enter Try.func5, Try.ntmps5
  go_wp2_with (first
    | (go_at_call 8; ((with_reducible refine D1.out.mono ?_); rintro e w1 ⟨rfl, hb⟩; have H1 := Lib.hid (T0.out.trans (hb.mono T0.out.size)); have D2 := Lib.hid (HR.out _ H1.out); clear hb))
    | (go_at_call 9; ((with_reducible refine D2.out.mono ?_); rintro e w2 ⟨rfl, hb⟩; have H2 := Lib.hid (H1.out.trans (hb.mono H1.out.size)); clear hb)))
  go_ret
  exact ⟨rfl, H2.out⟩
theorem opc_two (w : World) (ka ua va xa kb ub vb xb : Int) : OpC ((w.alloc (.cells #[.int .i64 ka, .int .i64 ua, .int .i64 va, .int .u64 xa] 25)).alloc (.cells #[.int .i64 kb, .int .i64 ub, .int .i64 vb, .int .u64 xb] 25)) (w.heap.size + 1) kb ub vb xb := by
  have := opc_new (w.alloc (.cells #[.int .i64 ka, .int .i64 ua, .int .i64 va, .int .u64 xa] 25)) kb ub vb xb
  rwa [World.size_alloc] at this
theorem OpC.alloc1 {w : World} {b : Nat} {k u v x : Int} (h : OpC w b k u v x) (o : Obj) : OpC (w.alloc o) b k u v x := h.below ((Below.refl _ _).alloc (Nat.le_refl _) o) (Nat.le_refl _)
theorem two_cells (w : World) (a b c d : Int) : ((w.alloc (.cells #[.int .i64 a, .int .i64 b] 3)).alloc (.cells #[.int .i64 c, .int .i64 d] 3)).cell? ⟨w.heap.size, 0, none⟩ = some (.int .i64 a) ∧ ((w.alloc (.cells #[.int .i64 a, .int .i64 b] 3)).alloc (.cells #[.int .i64 c, .int .i64 d] 3)).cell? ⟨w.heap.size, 1, none⟩ = some (.int .i64 b) ∧
    ((w.alloc (.cells #[.int .i64 a, .int .i64 b] 3)).alloc (.cells #[.int .i64 c, .int .i64 d] 3)).cell? ⟨w.heap.size + 1, 0, none⟩ = some (.int .i64 c) ∧ ((w.alloc (.cells #[.int .i64 a, .int .i64 b] 3)).alloc (.cells #[.int .i64 c, .int .i64 d] 3)).cell? ⟨w.heap.size + 1, 1, none⟩ = some (.int .i64 d) := by
  have y : Below (w.alloc (.cells #[.int .i64 a, .int .i64 b] 3)).heap.size (w.alloc (.cells #[.int .i64 a, .int .i64 b] 3)) ((w.alloc (.cells #[.int .i64 a, .int .i64 b] 3)).alloc (.cells #[.int .i64 c, .int .i64 d] 3)) := (Below.refl _ _).alloc (Nat.le_refl _) _
  have c0 : Cell (w.alloc (.cells #[.int .i64 a, .int .i64 b] 3)) w.heap.size 0 (.int .i64 a) := Cell.new rfl
  have c1 : Cell (w.alloc (.cells #[.int .i64 a, .int .i64 b] 3)) w.heap.size 1 (.int .i64 b) := Cell.new rfl
  have c2 : Cell ((w.alloc (.cells #[.int .i64 a, .int .i64 b] 3)).alloc (.cells #[.int .i64 c, .int .i64 d] 3)) (w.alloc (.cells #[.int .i64 a, .int .i64 b] 3)).heap.size 0 (.int .i64 c) := Cell.new rfl
  have c3 : Cell ((w.alloc (.cells #[.int .i64 a, .int .i64 b] 3)).alloc (.cells #[.int .i64 c, .int .i64 d] 3)) (w.alloc (.cells #[.int .i64 a, .int .i64 b] 3)).heap.size 1 (.int .i64 d) := Cell.new rfl
  rw [World.size_alloc] at c2 c3
  exact ⟨(c0.later y).at, (c1.later y).at, c2.at, c3.at⟩
theorem two_below (w : World) (o1 o2 : Obj) (q : Nat) : Below w.heap.size w (((w.alloc o1).alloc o2).drewN q) := below_drewN (w2_below w o1 o2) q
end Go.Proofs.Ytmlcghbhkpbaeaa
