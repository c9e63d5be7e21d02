/- GraphApart: the walk. -/
import Derived.Test.YtmlcghbhkpbaeaaApartP
namespace Go.Proofs.Ytmlcghbhkpbaeaa
open Go.RowKit Aid

set_option maxHeartbeats 16000000 in
set_option maxRecDepth 100000 in
theorem apart_EE_uu (A : Option Addr) (c n : Nat) (g : List Arc) (ka ua va xa kb vb xb : Int) (w : World) (hn : n = g.length) (hl : Arcs w A g) (h40 : n ≤ 40) (hr : rightB g = true) (ha1 : 14 ≤ ka) (ha2 : ka ≤ 16) (hb1 : 14 ≤ kb) (hb2 : kb ≤ 16) :
    Calls Try.prog 5 #[.slice A n c, .agg #[.int .i64 ka, .int .i64 ua, .int .i64 va, .int .u64 xa], .agg #[.int .i64 kb, .int .i64 ua, .int .i64 vb, .int .u64 xb]] w fun e w' => e = .returned (.bool true) ∧ Below w.heap.size w w' := by
  have T0 := Lib.hid (((Below.refl w.heap.size w).alloc (Nat.le_refl _) (.cells #[.int .i64 ka, .int .i64 ua, .int .i64 va, .int .u64 xa] 25)).alloc (by rw [World.size_alloc]; omega) (.cells #[.int .i64 kb, .int .i64 ua, .int .i64 vb, .int .u64 xb] 25))
  have D1 := Lib.hid (shown_any ((w.alloc (.cells #[.int .i64 ka, .int .i64 ua, .int .i64 va, .int .u64 xa] 25)).alloc (.cells #[.int .i64 kb, .int .i64 ua, .int .i64 vb, .int .u64 xb] 25)))
  have G0 := Lib.hid (hl.below T0.out (Nat.le_refl _))
  have O0 := Lib.hid ((opc_new w (ka) ua va xa).below ((Below.refl _ _).alloc (Nat.le_refl _) (.cells #[.int .i64 kb, .int .i64 ua, .int .i64 vb, .int .u64 xb] 25)) (Nat.le_refl _))
  have P0 := Lib.hid (opc_two w (ka) ua va xa (kb) ua vb xb)
  have HN := Lib.hid hn
  have H40 := Lib.hid (show g.length ≤ 999 from by omega)
  have HR := Lib.hid hr
  clear hl hr hn
  have d1 : decide ((40 : Int) < (n : Int)) = false := by simp; omega
  have d2 : decide (40 < n) = false := by simp; omega
  have ea1 : decide ((14 : Int) ≤ ka) = true := by simp; omega
  have ea2 : decide (ka ≤ (16 : Int)) = true := by simp; omega
  have ea3 : (ka == 17) = false := by simp; omega
  have eb1 : decide ((14 : Int) ≤ kb) = true := by simp; omega
  have eb2 : decide (kb ≤ (16 : Int)) = true := by simp; omega
  have eb3 : (kb == 17) = false := by simp; omega
  go_enter Try.func5, Try.ntmps5
  go_wp2_with (first
    | (go_at_call 8; ((with_reducible refine D1.out.mono ?_); rintro e w1 ⟨rfl, hb⟩; have G1 := Lib.hid (G0.out.below hb (Nat.le_refl _)); have O1 := Lib.hid (O0.out.below hb (Nat.le_refl _)); have P1 := Lib.hid (P0.out.below hb (Nat.le_refl _)); have T1 := Lib.hid (T0.out.trans (hb.mono T0.out.size)); have D2 := Lib.hid (right_eq c HN.out G1.out H40.out HR.out); clear hb))
    | (go_at_call 9; ((with_reducible refine D2.out.mono ?_); rintro e w2 ⟨rfl, hb⟩; have G2 := Lib.hid (G1.out.below hb (Nat.le_refl _)); have O2 := Lib.hid (O1.out.below hb (Nat.le_refl _)); have P2 := Lib.hid (P1.out.below hb (Nat.le_refl _)); have T2 := Lib.hid (T1.out.trans (hb.mono T1.out.size)); obtain ⟨_, q1, _, _⟩ := O2.out; obtain ⟨_, r1, _, _⟩ := P2.out.alloc1 (.cells #[.int .i64 ua, .int .i64 ua] 3); obtain ⟨q4, _, q5, _⟩ := (O2.out.alloc1 (.cells #[.int .i64 ua, .int .i64 ua] 3)).alloc1 (.cells #[.int .i64 ua, .int .i64 ua] 3); obtain ⟨r4, _, r5, _⟩ := (P2.out.alloc1 (.cells #[.int .i64 ua, .int .i64 va] 3)).alloc1 (.cells #[.int .i64 ua, .int .i64 ua] 3); obtain ⟨q6, _, _, _⟩ := (O2.out.alloc1 (.cells #[.int .i64 ua, .int .i64 va] 3)).alloc1 (.cells #[.int .i64 ua, .int .i64 vb] 3); obtain ⟨r6, _, _, _⟩ := (P2.out.alloc1 (.cells #[.int .i64 ua, .int .i64 va] 3)).alloc1 (.cells #[.int .i64 ua, .int .i64 vb] 3); obtain ⟨s0, s1, s2, s3⟩ := two_cells w2 (ua) (va) (ua) (vb); have H2 := Lib.hid (fun q => T2.out.trans ((two_below w2 (.cells #[.int .i64 ua, .int .i64 va] 3) (.cells #[.int .i64 ua, .int .i64 vb] 3) q).mono T2.out.size)); clear hb)))
  go_quiet (fail)
  go_wp2
  go_ret
  exact ⟨rfl, H2.out _⟩
set_option maxHeartbeats 16000000 in
set_option maxRecDepth 100000 in
theorem apart_EE_uv (A : Option Addr) (c n : Nat) (g : List Arc) (ka ua va xa kb ub xb : Int) (w : World) (hn : n = g.length) (hl : Arcs w A g) (h40 : n ≤ 40) (hr : rightB g = true) (ha1 : 14 ≤ ka) (ha2 : ka ≤ 16) (hb1 : 14 ≤ kb) (hb2 : kb ≤ 16) (hua_ub : ¬ ua = ub) :
    Calls Try.prog 5 #[.slice A n c, .agg #[.int .i64 ka, .int .i64 ua, .int .i64 va, .int .u64 xa], .agg #[.int .i64 kb, .int .i64 ub, .int .i64 ua, .int .u64 xb]] w fun e w' => e = .returned (.bool true) ∧ Below w.heap.size w w' := by
  have T0 := Lib.hid (((Below.refl w.heap.size w).alloc (Nat.le_refl _) (.cells #[.int .i64 ka, .int .i64 ua, .int .i64 va, .int .u64 xa] 25)).alloc (by rw [World.size_alloc]; omega) (.cells #[.int .i64 kb, .int .i64 ub, .int .i64 ua, .int .u64 xb] 25))
  have D1 := Lib.hid (shown_any ((w.alloc (.cells #[.int .i64 ka, .int .i64 ua, .int .i64 va, .int .u64 xa] 25)).alloc (.cells #[.int .i64 kb, .int .i64 ub, .int .i64 ua, .int .u64 xb] 25)))
  have G0 := Lib.hid (hl.below T0.out (Nat.le_refl _))
  have O0 := Lib.hid ((opc_new w (ka) ua va xa).below ((Below.refl _ _).alloc (Nat.le_refl _) (.cells #[.int .i64 kb, .int .i64 ub, .int .i64 ua, .int .u64 xb] 25)) (Nat.le_refl _))
  have P0 := Lib.hid (opc_two w (ka) ua va xa (kb) ub ua xb)
  have HN := Lib.hid hn
  have H40 := Lib.hid (show g.length ≤ 999 from by omega)
  have HR := Lib.hid hr
  clear hl hr hn
  have d1 : decide ((40 : Int) < (n : Int)) = false := by simp; omega
  have d2 : decide (40 < n) = false := by simp; omega
  have ea1 : decide ((14 : Int) ≤ ka) = true := by simp; omega
  have ea2 : decide (ka ≤ (16 : Int)) = true := by simp; omega
  have ea3 : (ka == 17) = false := by simp; omega
  have eb1 : decide ((14 : Int) ≤ kb) = true := by simp; omega
  have eb2 : decide (kb ≤ (16 : Int)) = true := by simp; omega
  have eb3 : (kb == 17) = false := by simp; omega
  have i0 : (ua == ub) = false := by simpa using hua_ub
  go_enter Try.func5, Try.ntmps5
  go_wp2_with (first
    | (go_at_call 8; ((with_reducible refine D1.out.mono ?_); rintro e w1 ⟨rfl, hb⟩; have G1 := Lib.hid (G0.out.below hb (Nat.le_refl _)); have O1 := Lib.hid (O0.out.below hb (Nat.le_refl _)); have P1 := Lib.hid (P0.out.below hb (Nat.le_refl _)); have T1 := Lib.hid (T0.out.trans (hb.mono T0.out.size)); have D2 := Lib.hid (right_eq c HN.out G1.out H40.out HR.out); clear hb))
    | (go_at_call 9; ((with_reducible refine D2.out.mono ?_); rintro e w2 ⟨rfl, hb⟩; have G2 := Lib.hid (G1.out.below hb (Nat.le_refl _)); have O2 := Lib.hid (O1.out.below hb (Nat.le_refl _)); have P2 := Lib.hid (P1.out.below hb (Nat.le_refl _)); have T2 := Lib.hid (T1.out.trans (hb.mono T1.out.size)); obtain ⟨_, q1, _, _⟩ := O2.out; obtain ⟨_, r1, _, _⟩ := P2.out.alloc1 (.cells #[.int .i64 ua, .int .i64 ua] 3); obtain ⟨q4, _, q5, _⟩ := (O2.out.alloc1 (.cells #[.int .i64 ua, .int .i64 ua] 3)).alloc1 (.cells #[.int .i64 ub, .int .i64 ub] 3); obtain ⟨r4, _, r5, _⟩ := (P2.out.alloc1 (.cells #[.int .i64 ua, .int .i64 va] 3)).alloc1 (.cells #[.int .i64 ub, .int .i64 ub] 3); obtain ⟨q6, _, _, _⟩ := (O2.out.alloc1 (.cells #[.int .i64 ua, .int .i64 va] 3)).alloc1 (.cells #[.int .i64 ub, .int .i64 ua] 3); obtain ⟨r6, _, _, _⟩ := (P2.out.alloc1 (.cells #[.int .i64 ua, .int .i64 va] 3)).alloc1 (.cells #[.int .i64 ub, .int .i64 ua] 3); obtain ⟨s0, s1, s2, s3⟩ := two_cells w2 (ua) (va) (ub) (ua); have H2 := Lib.hid (fun q => T2.out.trans ((two_below w2 (.cells #[.int .i64 ua, .int .i64 va] 3) (.cells #[.int .i64 ub, .int .i64 ua] 3) q).mono T2.out.size)); clear hb)))
  go_quiet (fail)
  go_wp2
  go_ret
  exact ⟨rfl, H2.out _⟩
set_option maxHeartbeats 16000000 in
set_option maxRecDepth 100000 in
theorem apart_EE_vu (A : Option Addr) (c n : Nat) (g : List Arc) (ka ua va xa kb vb xb : Int) (w : World) (hn : n = g.length) (hl : Arcs w A g) (h40 : n ≤ 40) (hr : rightB g = true) (ha1 : 14 ≤ ka) (ha2 : ka ≤ 16) (hb1 : 14 ≤ kb) (hb2 : kb ≤ 16) (hua_va : ¬ ua = va) (hua_vb : ¬ ua = vb) :
    Calls Try.prog 5 #[.slice A n c, .agg #[.int .i64 ka, .int .i64 ua, .int .i64 va, .int .u64 xa], .agg #[.int .i64 kb, .int .i64 va, .int .i64 vb, .int .u64 xb]] w fun e w' => e = .returned (.bool true) ∧ Below w.heap.size w w' := by
  have T0 := Lib.hid (((Below.refl w.heap.size w).alloc (Nat.le_refl _) (.cells #[.int .i64 ka, .int .i64 ua, .int .i64 va, .int .u64 xa] 25)).alloc (by rw [World.size_alloc]; omega) (.cells #[.int .i64 kb, .int .i64 va, .int .i64 vb, .int .u64 xb] 25))
  have D1 := Lib.hid (shown_any ((w.alloc (.cells #[.int .i64 ka, .int .i64 ua, .int .i64 va, .int .u64 xa] 25)).alloc (.cells #[.int .i64 kb, .int .i64 va, .int .i64 vb, .int .u64 xb] 25)))
  have G0 := Lib.hid (hl.below T0.out (Nat.le_refl _))
  have O0 := Lib.hid ((opc_new w (ka) ua va xa).below ((Below.refl _ _).alloc (Nat.le_refl _) (.cells #[.int .i64 kb, .int .i64 va, .int .i64 vb, .int .u64 xb] 25)) (Nat.le_refl _))
  have P0 := Lib.hid (opc_two w (ka) ua va xa (kb) va vb xb)
  have HN := Lib.hid hn
  have H40 := Lib.hid (show g.length ≤ 999 from by omega)
  have HR := Lib.hid hr
  clear hl hr hn
  have d1 : decide ((40 : Int) < (n : Int)) = false := by simp; omega
  have d2 : decide (40 < n) = false := by simp; omega
  have ea1 : decide ((14 : Int) ≤ ka) = true := by simp; omega
  have ea2 : decide (ka ≤ (16 : Int)) = true := by simp; omega
  have ea3 : (ka == 17) = false := by simp; omega
  have eb1 : decide ((14 : Int) ≤ kb) = true := by simp; omega
  have eb2 : decide (kb ≤ (16 : Int)) = true := by simp; omega
  have eb3 : (kb == 17) = false := by simp; omega
  have i0 : (ua == va) = false := by simpa using hua_va
  have i1 : (ua == vb) = false := by simpa using hua_vb
  go_enter Try.func5, Try.ntmps5
  go_wp2_with (first
    | (go_at_call 8; ((with_reducible refine D1.out.mono ?_); rintro e w1 ⟨rfl, hb⟩; have G1 := Lib.hid (G0.out.below hb (Nat.le_refl _)); have O1 := Lib.hid (O0.out.below hb (Nat.le_refl _)); have P1 := Lib.hid (P0.out.below hb (Nat.le_refl _)); have T1 := Lib.hid (T0.out.trans (hb.mono T0.out.size)); have D2 := Lib.hid (right_eq c HN.out G1.out H40.out HR.out); clear hb))
    | (go_at_call 9; ((with_reducible refine D2.out.mono ?_); rintro e w2 ⟨rfl, hb⟩; have G2 := Lib.hid (G1.out.below hb (Nat.le_refl _)); have O2 := Lib.hid (O1.out.below hb (Nat.le_refl _)); have P2 := Lib.hid (P1.out.below hb (Nat.le_refl _)); have T2 := Lib.hid (T1.out.trans (hb.mono T1.out.size)); obtain ⟨_, q1, _, _⟩ := O2.out; obtain ⟨_, r1, _, _⟩ := P2.out.alloc1 (.cells #[.int .i64 ua, .int .i64 ua] 3); obtain ⟨q4, _, q5, _⟩ := (O2.out.alloc1 (.cells #[.int .i64 ua, .int .i64 ua] 3)).alloc1 (.cells #[.int .i64 va, .int .i64 va] 3); obtain ⟨r4, _, r5, _⟩ := (P2.out.alloc1 (.cells #[.int .i64 ua, .int .i64 va] 3)).alloc1 (.cells #[.int .i64 va, .int .i64 va] 3); obtain ⟨q6, _, _, _⟩ := (O2.out.alloc1 (.cells #[.int .i64 ua, .int .i64 va] 3)).alloc1 (.cells #[.int .i64 va, .int .i64 vb] 3); obtain ⟨r6, _, _, _⟩ := (P2.out.alloc1 (.cells #[.int .i64 ua, .int .i64 va] 3)).alloc1 (.cells #[.int .i64 va, .int .i64 vb] 3); obtain ⟨s0, s1, s2, s3⟩ := two_cells w2 (ua) (va) (va) (vb); have H2 := Lib.hid (fun q => T2.out.trans ((two_below w2 (.cells #[.int .i64 ua, .int .i64 va] 3) (.cells #[.int .i64 va, .int .i64 vb] 3) q).mono T2.out.size)); clear hb)))
  go_quiet (fail)
  go_wp2
  go_ret
  exact ⟨rfl, H2.out _⟩
set_option maxHeartbeats 16000000 in
set_option maxRecDepth 100000 in
theorem apart_EE_vv (A : Option Addr) (c n : Nat) (g : List Arc) (ka ua va xa kb ub xb : Int) (w : World) (hn : n = g.length) (hl : Arcs w A g) (h40 : n ≤ 40) (hr : rightB g = true) (ha1 : 14 ≤ ka) (ha2 : ka ≤ 16) (hb1 : 14 ≤ kb) (hb2 : kb ≤ 16) (hua_ub : ¬ ua = ub) (hua_va : ¬ ua = va) (hva_ub : ¬ va = ub) :
    Calls Try.prog 5 #[.slice A n c, .agg #[.int .i64 ka, .int .i64 ua, .int .i64 va, .int .u64 xa], .agg #[.int .i64 kb, .int .i64 ub, .int .i64 va, .int .u64 xb]] w fun e w' => e = .returned (.bool true) ∧ Below w.heap.size w w' := by
  have T0 := Lib.hid (((Below.refl w.heap.size w).alloc (Nat.le_refl _) (.cells #[.int .i64 ka, .int .i64 ua, .int .i64 va, .int .u64 xa] 25)).alloc (by rw [World.size_alloc]; omega) (.cells #[.int .i64 kb, .int .i64 ub, .int .i64 va, .int .u64 xb] 25))
  have D1 := Lib.hid (shown_any ((w.alloc (.cells #[.int .i64 ka, .int .i64 ua, .int .i64 va, .int .u64 xa] 25)).alloc (.cells #[.int .i64 kb, .int .i64 ub, .int .i64 va, .int .u64 xb] 25)))
  have G0 := Lib.hid (hl.below T0.out (Nat.le_refl _))
  have O0 := Lib.hid ((opc_new w (ka) ua va xa).below ((Below.refl _ _).alloc (Nat.le_refl _) (.cells #[.int .i64 kb, .int .i64 ub, .int .i64 va, .int .u64 xb] 25)) (Nat.le_refl _))
  have P0 := Lib.hid (opc_two w (ka) ua va xa (kb) ub va xb)
  have HN := Lib.hid hn
  have H40 := Lib.hid (show g.length ≤ 999 from by omega)
  have HR := Lib.hid hr
  clear hl hr hn
  have d1 : decide ((40 : Int) < (n : Int)) = false := by simp; omega
  have d2 : decide (40 < n) = false := by simp; omega
  have ea1 : decide ((14 : Int) ≤ ka) = true := by simp; omega
  have ea2 : decide (ka ≤ (16 : Int)) = true := by simp; omega
  have ea3 : (ka == 17) = false := by simp; omega
  have eb1 : decide ((14 : Int) ≤ kb) = true := by simp; omega
  have eb2 : decide (kb ≤ (16 : Int)) = true := by simp; omega
  have eb3 : (kb == 17) = false := by simp; omega
  have i0 : (ua == ub) = false := by simpa using hua_ub
  have i1 : (ua == va) = false := by simpa using hua_va
  have i2 : (va == ub) = false := by simpa using hva_ub
  go_enter Try.func5, Try.ntmps5
  go_wp2_with (first
    | (go_at_call 8; ((with_reducible refine D1.out.mono ?_); rintro e w1 ⟨rfl, hb⟩; have G1 := Lib.hid (G0.out.below hb (Nat.le_refl _)); have O1 := Lib.hid (O0.out.below hb (Nat.le_refl _)); have P1 := Lib.hid (P0.out.below hb (Nat.le_refl _)); have T1 := Lib.hid (T0.out.trans (hb.mono T0.out.size)); have D2 := Lib.hid (right_eq c HN.out G1.out H40.out HR.out); clear hb))
    | (go_at_call 9; ((with_reducible refine D2.out.mono ?_); rintro e w2 ⟨rfl, hb⟩; have G2 := Lib.hid (G1.out.below hb (Nat.le_refl _)); have O2 := Lib.hid (O1.out.below hb (Nat.le_refl _)); have P2 := Lib.hid (P1.out.below hb (Nat.le_refl _)); have T2 := Lib.hid (T1.out.trans (hb.mono T1.out.size)); obtain ⟨_, q1, _, _⟩ := O2.out; obtain ⟨_, r1, _, _⟩ := P2.out.alloc1 (.cells #[.int .i64 ua, .int .i64 ua] 3); obtain ⟨q4, _, q5, _⟩ := (O2.out.alloc1 (.cells #[.int .i64 ua, .int .i64 ua] 3)).alloc1 (.cells #[.int .i64 ub, .int .i64 ub] 3); obtain ⟨r4, _, r5, _⟩ := (P2.out.alloc1 (.cells #[.int .i64 ua, .int .i64 va] 3)).alloc1 (.cells #[.int .i64 ub, .int .i64 ub] 3); obtain ⟨q6, _, _, _⟩ := (O2.out.alloc1 (.cells #[.int .i64 ua, .int .i64 va] 3)).alloc1 (.cells #[.int .i64 ub, .int .i64 va] 3); obtain ⟨r6, _, _, _⟩ := (P2.out.alloc1 (.cells #[.int .i64 ua, .int .i64 va] 3)).alloc1 (.cells #[.int .i64 ub, .int .i64 va] 3); obtain ⟨s0, s1, s2, s3⟩ := two_cells w2 (ua) (va) (ub) (va); have H2 := Lib.hid (fun q => T2.out.trans ((two_below w2 (.cells #[.int .i64 ua, .int .i64 va] 3) (.cells #[.int .i64 ub, .int .i64 va] 3) q).mono T2.out.size)); clear hb)))
  go_quiet (fail)
  go_wp2
  go_ret
  exact ⟨rfl, H2.out _⟩
set_option maxHeartbeats 16000000 in
set_option maxRecDepth 100000 in
theorem apart_EL_uu (A : Option Addr) (c n : Nat) (g : List Arc) (ka ua va xa kb vb xb : Int) (w : World) (hn : n = g.length) (hl : Arcs w A g) (h40 : n ≤ 40) (hr : rightB g = true) (ha1 : 14 ≤ ka) (ha2 : ka ≤ 16) (hb1 : kb < 14) :
    Calls Try.prog 5 #[.slice A n c, .agg #[.int .i64 ka, .int .i64 ua, .int .i64 va, .int .u64 xa], .agg #[.int .i64 kb, .int .i64 ua, .int .i64 vb, .int .u64 xb]] w fun e w' => e = .returned (.bool true) ∧ Below w.heap.size w w' := by
  have T0 := Lib.hid (((Below.refl w.heap.size w).alloc (Nat.le_refl _) (.cells #[.int .i64 ka, .int .i64 ua, .int .i64 va, .int .u64 xa] 25)).alloc (by rw [World.size_alloc]; omega) (.cells #[.int .i64 kb, .int .i64 ua, .int .i64 vb, .int .u64 xb] 25))
  have D1 := Lib.hid (shown_any ((w.alloc (.cells #[.int .i64 ka, .int .i64 ua, .int .i64 va, .int .u64 xa] 25)).alloc (.cells #[.int .i64 kb, .int .i64 ua, .int .i64 vb, .int .u64 xb] 25)))
  have G0 := Lib.hid (hl.below T0.out (Nat.le_refl _))
  have O0 := Lib.hid ((opc_new w (ka) ua va xa).below ((Below.refl _ _).alloc (Nat.le_refl _) (.cells #[.int .i64 kb, .int .i64 ua, .int .i64 vb, .int .u64 xb] 25)) (Nat.le_refl _))
  have P0 := Lib.hid (opc_two w (ka) ua va xa (kb) ua vb xb)
  have HN := Lib.hid hn
  have H40 := Lib.hid (show g.length ≤ 999 from by omega)
  have HR := Lib.hid hr
  clear hl hr hn
  have d1 : decide ((40 : Int) < (n : Int)) = false := by simp; omega
  have d2 : decide (40 < n) = false := by simp; omega
  have ea1 : decide ((14 : Int) ≤ ka) = true := by simp; omega
  have ea2 : decide (ka ≤ (16 : Int)) = true := by simp; omega
  have ea3 : (ka == 17) = false := by simp; omega
  have eb1 : decide ((14 : Int) ≤ kb) = false := by simp; omega
  have eb3 : (kb == 17) = false := by simp; omega
  go_enter Try.func5, Try.ntmps5
  go_wp2_with (first
    | (go_at_call 8; ((with_reducible refine D1.out.mono ?_); rintro e w1 ⟨rfl, hb⟩; have G1 := Lib.hid (G0.out.below hb (Nat.le_refl _)); have O1 := Lib.hid (O0.out.below hb (Nat.le_refl _)); have P1 := Lib.hid (P0.out.below hb (Nat.le_refl _)); have T1 := Lib.hid (T0.out.trans (hb.mono T0.out.size)); have D2 := Lib.hid (right_eq c HN.out G1.out H40.out HR.out); clear hb))
    | (go_at_call 9; ((with_reducible refine D2.out.mono ?_); rintro e w2 ⟨rfl, hb⟩; have G2 := Lib.hid (G1.out.below hb (Nat.le_refl _)); have O2 := Lib.hid (O1.out.below hb (Nat.le_refl _)); have P2 := Lib.hid (P1.out.below hb (Nat.le_refl _)); have T2 := Lib.hid (T1.out.trans (hb.mono T1.out.size)); obtain ⟨_, q1, _, _⟩ := O2.out; obtain ⟨_, r1, _, _⟩ := P2.out.alloc1 (.cells #[.int .i64 ua, .int .i64 ua] 3); obtain ⟨q4, _, q5, _⟩ := (O2.out.alloc1 (.cells #[.int .i64 ua, .int .i64 ua] 3)).alloc1 (.cells #[.int .i64 ua, .int .i64 ua] 3); obtain ⟨r4, _, r5, _⟩ := (P2.out.alloc1 (.cells #[.int .i64 ua, .int .i64 va] 3)).alloc1 (.cells #[.int .i64 ua, .int .i64 ua] 3); obtain ⟨q6, _, _, _⟩ := (O2.out.alloc1 (.cells #[.int .i64 ua, .int .i64 va] 3)).alloc1 (.cells #[.int .i64 ua, .int .i64 ua] 3); obtain ⟨r6, _, _, _⟩ := (P2.out.alloc1 (.cells #[.int .i64 ua, .int .i64 va] 3)).alloc1 (.cells #[.int .i64 ua, .int .i64 ua] 3); obtain ⟨s0, s1, s2, s3⟩ := two_cells w2 (ua) (va) (ua) (ua); have H2 := Lib.hid (fun q => T2.out.trans ((two_below w2 (.cells #[.int .i64 ua, .int .i64 va] 3) (.cells #[.int .i64 ua, .int .i64 ua] 3) q).mono T2.out.size)); clear hb)))
  go_quiet (fail)
  go_wp2
  go_ret
  exact ⟨rfl, H2.out _⟩
set_option maxHeartbeats 16000000 in
set_option maxRecDepth 100000 in
theorem apart_EL_vu (A : Option Addr) (c n : Nat) (g : List Arc) (ka ua va xa kb vb xb : Int) (w : World) (hn : n = g.length) (hl : Arcs w A g) (h40 : n ≤ 40) (hr : rightB g = true) (ha1 : 14 ≤ ka) (ha2 : ka ≤ 16) (hb1 : kb < 14) (hua_va : ¬ ua = va) :
    Calls Try.prog 5 #[.slice A n c, .agg #[.int .i64 ka, .int .i64 ua, .int .i64 va, .int .u64 xa], .agg #[.int .i64 kb, .int .i64 va, .int .i64 vb, .int .u64 xb]] w fun e w' => e = .returned (.bool true) ∧ Below w.heap.size w w' := by
  have T0 := Lib.hid (((Below.refl w.heap.size w).alloc (Nat.le_refl _) (.cells #[.int .i64 ka, .int .i64 ua, .int .i64 va, .int .u64 xa] 25)).alloc (by rw [World.size_alloc]; omega) (.cells #[.int .i64 kb, .int .i64 va, .int .i64 vb, .int .u64 xb] 25))
  have D1 := Lib.hid (shown_any ((w.alloc (.cells #[.int .i64 ka, .int .i64 ua, .int .i64 va, .int .u64 xa] 25)).alloc (.cells #[.int .i64 kb, .int .i64 va, .int .i64 vb, .int .u64 xb] 25)))
  have G0 := Lib.hid (hl.below T0.out (Nat.le_refl _))
  have O0 := Lib.hid ((opc_new w (ka) ua va xa).below ((Below.refl _ _).alloc (Nat.le_refl _) (.cells #[.int .i64 kb, .int .i64 va, .int .i64 vb, .int .u64 xb] 25)) (Nat.le_refl _))
  have P0 := Lib.hid (opc_two w (ka) ua va xa (kb) va vb xb)
  have HN := Lib.hid hn
  have H40 := Lib.hid (show g.length ≤ 999 from by omega)
  have HR := Lib.hid hr
  clear hl hr hn
  have d1 : decide ((40 : Int) < (n : Int)) = false := by simp; omega
  have d2 : decide (40 < n) = false := by simp; omega
  have ea1 : decide ((14 : Int) ≤ ka) = true := by simp; omega
  have ea2 : decide (ka ≤ (16 : Int)) = true := by simp; omega
  have ea3 : (ka == 17) = false := by simp; omega
  have eb1 : decide ((14 : Int) ≤ kb) = false := by simp; omega
  have eb3 : (kb == 17) = false := by simp; omega
  have i0 : (ua == va) = false := by simpa using hua_va
  go_enter Try.func5, Try.ntmps5
  go_wp2_with (first
    | (go_at_call 8; ((with_reducible refine D1.out.mono ?_); rintro e w1 ⟨rfl, hb⟩; have G1 := Lib.hid (G0.out.below hb (Nat.le_refl _)); have O1 := Lib.hid (O0.out.below hb (Nat.le_refl _)); have P1 := Lib.hid (P0.out.below hb (Nat.le_refl _)); have T1 := Lib.hid (T0.out.trans (hb.mono T0.out.size)); have D2 := Lib.hid (right_eq c HN.out G1.out H40.out HR.out); clear hb))
    | (go_at_call 9; ((with_reducible refine D2.out.mono ?_); rintro e w2 ⟨rfl, hb⟩; have G2 := Lib.hid (G1.out.below hb (Nat.le_refl _)); have O2 := Lib.hid (O1.out.below hb (Nat.le_refl _)); have P2 := Lib.hid (P1.out.below hb (Nat.le_refl _)); have T2 := Lib.hid (T1.out.trans (hb.mono T1.out.size)); obtain ⟨_, q1, _, _⟩ := O2.out; obtain ⟨_, r1, _, _⟩ := P2.out.alloc1 (.cells #[.int .i64 ua, .int .i64 ua] 3); obtain ⟨q4, _, q5, _⟩ := (O2.out.alloc1 (.cells #[.int .i64 ua, .int .i64 ua] 3)).alloc1 (.cells #[.int .i64 va, .int .i64 va] 3); obtain ⟨r4, _, r5, _⟩ := (P2.out.alloc1 (.cells #[.int .i64 ua, .int .i64 va] 3)).alloc1 (.cells #[.int .i64 va, .int .i64 va] 3); obtain ⟨q6, _, _, _⟩ := (O2.out.alloc1 (.cells #[.int .i64 ua, .int .i64 va] 3)).alloc1 (.cells #[.int .i64 va, .int .i64 va] 3); obtain ⟨r6, _, _, _⟩ := (P2.out.alloc1 (.cells #[.int .i64 ua, .int .i64 va] 3)).alloc1 (.cells #[.int .i64 va, .int .i64 va] 3); obtain ⟨s0, s1, s2, s3⟩ := two_cells w2 (ua) (va) (va) (va); have H2 := Lib.hid (fun q => T2.out.trans ((two_below w2 (.cells #[.int .i64 ua, .int .i64 va] 3) (.cells #[.int .i64 va, .int .i64 va] 3) q).mono T2.out.size)); clear hb)))
  go_quiet (fail)
  go_wp2
  go_ret
  exact ⟨rfl, H2.out _⟩
set_option maxHeartbeats 16000000 in
set_option maxRecDepth 100000 in
theorem apart_EH_uu (A : Option Addr) (c n : Nat) (g : List Arc) (ka ua va xa kb vb xb : Int) (w : World) (hn : n = g.length) (hl : Arcs w A g) (h40 : n ≤ 40) (hr : rightB g = true) (ha1 : 14 ≤ ka) (ha2 : ka ≤ 16) (hb1 : 17 < kb) :
    Calls Try.prog 5 #[.slice A n c, .agg #[.int .i64 ka, .int .i64 ua, .int .i64 va, .int .u64 xa], .agg #[.int .i64 kb, .int .i64 ua, .int .i64 vb, .int .u64 xb]] w fun e w' => e = .returned (.bool true) ∧ Below w.heap.size w w' := by
  have T0 := Lib.hid (((Below.refl w.heap.size w).alloc (Nat.le_refl _) (.cells #[.int .i64 ka, .int .i64 ua, .int .i64 va, .int .u64 xa] 25)).alloc (by rw [World.size_alloc]; omega) (.cells #[.int .i64 kb, .int .i64 ua, .int .i64 vb, .int .u64 xb] 25))
  have D1 := Lib.hid (shown_any ((w.alloc (.cells #[.int .i64 ka, .int .i64 ua, .int .i64 va, .int .u64 xa] 25)).alloc (.cells #[.int .i64 kb, .int .i64 ua, .int .i64 vb, .int .u64 xb] 25)))
  have G0 := Lib.hid (hl.below T0.out (Nat.le_refl _))
  have O0 := Lib.hid ((opc_new w (ka) ua va xa).below ((Below.refl _ _).alloc (Nat.le_refl _) (.cells #[.int .i64 kb, .int .i64 ua, .int .i64 vb, .int .u64 xb] 25)) (Nat.le_refl _))
  have P0 := Lib.hid (opc_two w (ka) ua va xa (kb) ua vb xb)
  have HN := Lib.hid hn
  have H40 := Lib.hid (show g.length ≤ 999 from by omega)
  have HR := Lib.hid hr
  clear hl hr hn
  have d1 : decide ((40 : Int) < (n : Int)) = false := by simp; omega
  have d2 : decide (40 < n) = false := by simp; omega
  have ea1 : decide ((14 : Int) ≤ ka) = true := by simp; omega
  have ea2 : decide (ka ≤ (16 : Int)) = true := by simp; omega
  have ea3 : (ka == 17) = false := by simp; omega
  have eb1 : decide ((14 : Int) ≤ kb) = true := by simp; omega
  have eb2 : decide (kb ≤ (16 : Int)) = false := by simp; omega
  have eb3 : (kb == 17) = false := by simp; omega
  go_enter Try.func5, Try.ntmps5
  go_wp2_with (first
    | (go_at_call 8; ((with_reducible refine D1.out.mono ?_); rintro e w1 ⟨rfl, hb⟩; have G1 := Lib.hid (G0.out.below hb (Nat.le_refl _)); have O1 := Lib.hid (O0.out.below hb (Nat.le_refl _)); have P1 := Lib.hid (P0.out.below hb (Nat.le_refl _)); have T1 := Lib.hid (T0.out.trans (hb.mono T0.out.size)); have D2 := Lib.hid (right_eq c HN.out G1.out H40.out HR.out); clear hb))
    | (go_at_call 9; ((with_reducible refine D2.out.mono ?_); rintro e w2 ⟨rfl, hb⟩; have G2 := Lib.hid (G1.out.below hb (Nat.le_refl _)); have O2 := Lib.hid (O1.out.below hb (Nat.le_refl _)); have P2 := Lib.hid (P1.out.below hb (Nat.le_refl _)); have T2 := Lib.hid (T1.out.trans (hb.mono T1.out.size)); obtain ⟨_, q1, _, _⟩ := O2.out; obtain ⟨_, r1, _, _⟩ := P2.out.alloc1 (.cells #[.int .i64 ua, .int .i64 ua] 3); obtain ⟨q4, _, q5, _⟩ := (O2.out.alloc1 (.cells #[.int .i64 ua, .int .i64 ua] 3)).alloc1 (.cells #[.int .i64 ua, .int .i64 ua] 3); obtain ⟨r4, _, r5, _⟩ := (P2.out.alloc1 (.cells #[.int .i64 ua, .int .i64 va] 3)).alloc1 (.cells #[.int .i64 ua, .int .i64 ua] 3); obtain ⟨q6, _, _, _⟩ := (O2.out.alloc1 (.cells #[.int .i64 ua, .int .i64 va] 3)).alloc1 (.cells #[.int .i64 ua, .int .i64 ua] 3); obtain ⟨r6, _, _, _⟩ := (P2.out.alloc1 (.cells #[.int .i64 ua, .int .i64 va] 3)).alloc1 (.cells #[.int .i64 ua, .int .i64 ua] 3); obtain ⟨s0, s1, s2, s3⟩ := two_cells w2 (ua) (va) (ua) (ua); have H2 := Lib.hid (fun q => T2.out.trans ((two_below w2 (.cells #[.int .i64 ua, .int .i64 va] 3) (.cells #[.int .i64 ua, .int .i64 ua] 3) q).mono T2.out.size)); clear hb)))
  go_quiet (fail)
  go_wp2
  go_ret
  exact ⟨rfl, H2.out _⟩
set_option maxHeartbeats 16000000 in
set_option maxRecDepth 100000 in
theorem apart_EH_vu (A : Option Addr) (c n : Nat) (g : List Arc) (ka ua va xa kb vb xb : Int) (w : World) (hn : n = g.length) (hl : Arcs w A g) (h40 : n ≤ 40) (hr : rightB g = true) (ha1 : 14 ≤ ka) (ha2 : ka ≤ 16) (hb1 : 17 < kb) (hua_va : ¬ ua = va) :
    Calls Try.prog 5 #[.slice A n c, .agg #[.int .i64 ka, .int .i64 ua, .int .i64 va, .int .u64 xa], .agg #[.int .i64 kb, .int .i64 va, .int .i64 vb, .int .u64 xb]] w fun e w' => e = .returned (.bool true) ∧ Below w.heap.size w w' := by
  have T0 := Lib.hid (((Below.refl w.heap.size w).alloc (Nat.le_refl _) (.cells #[.int .i64 ka, .int .i64 ua, .int .i64 va, .int .u64 xa] 25)).alloc (by rw [World.size_alloc]; omega) (.cells #[.int .i64 kb, .int .i64 va, .int .i64 vb, .int .u64 xb] 25))
  have D1 := Lib.hid (shown_any ((w.alloc (.cells #[.int .i64 ka, .int .i64 ua, .int .i64 va, .int .u64 xa] 25)).alloc (.cells #[.int .i64 kb, .int .i64 va, .int .i64 vb, .int .u64 xb] 25)))
  have G0 := Lib.hid (hl.below T0.out (Nat.le_refl _))
  have O0 := Lib.hid ((opc_new w (ka) ua va xa).below ((Below.refl _ _).alloc (Nat.le_refl _) (.cells #[.int .i64 kb, .int .i64 va, .int .i64 vb, .int .u64 xb] 25)) (Nat.le_refl _))
  have P0 := Lib.hid (opc_two w (ka) ua va xa (kb) va vb xb)
  have HN := Lib.hid hn
  have H40 := Lib.hid (show g.length ≤ 999 from by omega)
  have HR := Lib.hid hr
  clear hl hr hn
  have d1 : decide ((40 : Int) < (n : Int)) = false := by simp; omega
  have d2 : decide (40 < n) = false := by simp; omega
  have ea1 : decide ((14 : Int) ≤ ka) = true := by simp; omega
  have ea2 : decide (ka ≤ (16 : Int)) = true := by simp; omega
  have ea3 : (ka == 17) = false := by simp; omega
  have eb1 : decide ((14 : Int) ≤ kb) = true := by simp; omega
  have eb2 : decide (kb ≤ (16 : Int)) = false := by simp; omega
  have eb3 : (kb == 17) = false := by simp; omega
  have i0 : (ua == va) = false := by simpa using hua_va
  go_enter Try.func5, Try.ntmps5
  go_wp2_with (first
    | (go_at_call 8; ((with_reducible refine D1.out.mono ?_); rintro e w1 ⟨rfl, hb⟩; have G1 := Lib.hid (G0.out.below hb (Nat.le_refl _)); have O1 := Lib.hid (O0.out.below hb (Nat.le_refl _)); have P1 := Lib.hid (P0.out.below hb (Nat.le_refl _)); have T1 := Lib.hid (T0.out.trans (hb.mono T0.out.size)); have D2 := Lib.hid (right_eq c HN.out G1.out H40.out HR.out); clear hb))
    | (go_at_call 9; ((with_reducible refine D2.out.mono ?_); rintro e w2 ⟨rfl, hb⟩; have G2 := Lib.hid (G1.out.below hb (Nat.le_refl _)); have O2 := Lib.hid (O1.out.below hb (Nat.le_refl _)); have P2 := Lib.hid (P1.out.below hb (Nat.le_refl _)); have T2 := Lib.hid (T1.out.trans (hb.mono T1.out.size)); obtain ⟨_, q1, _, _⟩ := O2.out; obtain ⟨_, r1, _, _⟩ := P2.out.alloc1 (.cells #[.int .i64 ua, .int .i64 ua] 3); obtain ⟨q4, _, q5, _⟩ := (O2.out.alloc1 (.cells #[.int .i64 ua, .int .i64 ua] 3)).alloc1 (.cells #[.int .i64 va, .int .i64 va] 3); obtain ⟨r4, _, r5, _⟩ := (P2.out.alloc1 (.cells #[.int .i64 ua, .int .i64 va] 3)).alloc1 (.cells #[.int .i64 va, .int .i64 va] 3); obtain ⟨q6, _, _, _⟩ := (O2.out.alloc1 (.cells #[.int .i64 ua, .int .i64 va] 3)).alloc1 (.cells #[.int .i64 va, .int .i64 va] 3); obtain ⟨r6, _, _, _⟩ := (P2.out.alloc1 (.cells #[.int .i64 ua, .int .i64 va] 3)).alloc1 (.cells #[.int .i64 va, .int .i64 va] 3); obtain ⟨s0, s1, s2, s3⟩ := two_cells w2 (ua) (va) (va) (va); have H2 := Lib.hid (fun q => T2.out.trans ((two_below w2 (.cells #[.int .i64 ua, .int .i64 va] 3) (.cells #[.int .i64 va, .int .i64 va] 3) q).mono T2.out.size)); clear hb)))
  go_quiet (fail)
  go_wp2
  go_ret
  exact ⟨rfl, H2.out _⟩
set_option maxHeartbeats 16000000 in
set_option maxRecDepth 100000 in
theorem apart_ES_near (A : Option Addr) (c n : Nat) (g : List Arc) (ka ua va xa ub vb xb : Int) (w : World) (hn : n = g.length) (hl : Arcs w A g) (h40 : n ≤ 40) (hr : rightB g = true) (ha1 : 14 ≤ ka) (ha2 : ka ≤ 16) :
    Calls Try.prog 5 #[.slice A n c, .agg #[.int .i64 ka, .int .i64 ua, .int .i64 va, .int .u64 xa], .agg #[.int .i64 17, .int .i64 ub, .int .i64 vb, .int .u64 xb]] w fun e w' => e = .returned (.bool true) ∧ Below w.heap.size w w' := by
  have T0 := Lib.hid (((Below.refl w.heap.size w).alloc (Nat.le_refl _) (.cells #[.int .i64 ka, .int .i64 ua, .int .i64 va, .int .u64 xa] 25)).alloc (by rw [World.size_alloc]; omega) (.cells #[.int .i64 17, .int .i64 ub, .int .i64 vb, .int .u64 xb] 25))
  have D1 := Lib.hid (shown_any ((w.alloc (.cells #[.int .i64 ka, .int .i64 ua, .int .i64 va, .int .u64 xa] 25)).alloc (.cells #[.int .i64 17, .int .i64 ub, .int .i64 vb, .int .u64 xb] 25)))
  have G0 := Lib.hid (hl.below T0.out (Nat.le_refl _))
  have O0 := Lib.hid ((opc_new w (ka) ua va xa).below ((Below.refl _ _).alloc (Nat.le_refl _) (.cells #[.int .i64 17, .int .i64 ub, .int .i64 vb, .int .u64 xb] 25)) (Nat.le_refl _))
  have P0 := Lib.hid (opc_two w (ka) ua va xa (17) ub vb xb)
  have HN := Lib.hid hn
  have H40 := Lib.hid (show g.length ≤ 999 from by omega)
  have HR := Lib.hid hr
  clear hl hr hn
  have d1 : decide ((40 : Int) < (n : Int)) = false := by simp; omega
  have d2 : decide (40 < n) = false := by simp; omega
  have ea1 : decide ((14 : Int) ≤ ka) = true := by simp; omega
  have ea2 : decide (ka ≤ (16 : Int)) = true := by simp; omega
  have ea3 : (ka == 17) = false := by simp; omega
  go_enter Try.func5, Try.ntmps5
  go_wp2_with (first
    | (go_at_call 8; ((with_reducible refine D1.out.mono ?_); rintro e w1 ⟨rfl, hb⟩; have G1 := Lib.hid (G0.out.below hb (Nat.le_refl _)); have O1 := Lib.hid (O0.out.below hb (Nat.le_refl _)); have P1 := Lib.hid (P0.out.below hb (Nat.le_refl _)); have T1 := Lib.hid (T0.out.trans (hb.mono T0.out.size)); have D2 := Lib.hid (right_eq c HN.out G1.out H40.out HR.out); clear hb))
    | (go_at_call 9; ((with_reducible refine D2.out.mono ?_); rintro e w2 ⟨rfl, hb⟩; have G2 := Lib.hid (G1.out.below hb (Nat.le_refl _)); have O2 := Lib.hid (O1.out.below hb (Nat.le_refl _)); have P2 := Lib.hid (P1.out.below hb (Nat.le_refl _)); have T2 := Lib.hid (T1.out.trans (hb.mono T1.out.size)); obtain ⟨_, q1, _, _⟩ := O2.out; obtain ⟨_, r1, _, _⟩ := P2.out.alloc1 (.cells #[.int .i64 ua, .int .i64 ua] 3); obtain ⟨q4, _, q5, _⟩ := (O2.out.alloc1 (.cells #[.int .i64 ua, .int .i64 ua] 3)).alloc1 (.cells #[.int .i64 ub, .int .i64 ub] 3); obtain ⟨r4, _, r5, _⟩ := (P2.out.alloc1 (.cells #[.int .i64 ua, .int .i64 va] 3)).alloc1 (.cells #[.int .i64 ub, .int .i64 ub] 3); obtain ⟨q6, _, _, _⟩ := (O2.out.alloc1 (.cells #[.int .i64 ua, .int .i64 va] 3)).alloc1 (.cells #[.int .i64 ub, .int .i64 ub] 3); obtain ⟨r6, _, _, _⟩ := (P2.out.alloc1 (.cells #[.int .i64 ua, .int .i64 va] 3)).alloc1 (.cells #[.int .i64 ub, .int .i64 ub] 3); obtain ⟨s0, s1, s2, s3⟩ := two_cells w2 (ua) (va) (ub) (ub); have H2 := Lib.hid (fun q => T2.out.trans ((two_below w2 (.cells #[.int .i64 ua, .int .i64 va] 3) (.cells #[.int .i64 ub, .int .i64 ub] 3) q).mono T2.out.size)); clear hb)))
  go_quiet (fail)
  go_wp2
  go_ret
  exact ⟨rfl, H2.out _⟩
set_option maxHeartbeats 16000000 in
set_option maxRecDepth 100000 in
theorem apart_LE_uu (A : Option Addr) (c n : Nat) (g : List Arc) (ka ua va xa kb vb xb : Int) (w : World) (hn : n = g.length) (hl : Arcs w A g) (h40 : n ≤ 40) (hr : rightB g = true) (ha1 : ka < 14) (hb1 : 14 ≤ kb) (hb2 : kb ≤ 16) :
    Calls Try.prog 5 #[.slice A n c, .agg #[.int .i64 ka, .int .i64 ua, .int .i64 va, .int .u64 xa], .agg #[.int .i64 kb, .int .i64 ua, .int .i64 vb, .int .u64 xb]] w fun e w' => e = .returned (.bool true) ∧ Below w.heap.size w w' := by
  have T0 := Lib.hid (((Below.refl w.heap.size w).alloc (Nat.le_refl _) (.cells #[.int .i64 ka, .int .i64 ua, .int .i64 va, .int .u64 xa] 25)).alloc (by rw [World.size_alloc]; omega) (.cells #[.int .i64 kb, .int .i64 ua, .int .i64 vb, .int .u64 xb] 25))
  have D1 := Lib.hid (shown_any ((w.alloc (.cells #[.int .i64 ka, .int .i64 ua, .int .i64 va, .int .u64 xa] 25)).alloc (.cells #[.int .i64 kb, .int .i64 ua, .int .i64 vb, .int .u64 xb] 25)))
  have G0 := Lib.hid (hl.below T0.out (Nat.le_refl _))
  have O0 := Lib.hid ((opc_new w (ka) ua va xa).below ((Below.refl _ _).alloc (Nat.le_refl _) (.cells #[.int .i64 kb, .int .i64 ua, .int .i64 vb, .int .u64 xb] 25)) (Nat.le_refl _))
  have P0 := Lib.hid (opc_two w (ka) ua va xa (kb) ua vb xb)
  have HN := Lib.hid hn
  have H40 := Lib.hid (show g.length ≤ 999 from by omega)
  have HR := Lib.hid hr
  clear hl hr hn
  have d1 : decide ((40 : Int) < (n : Int)) = false := by simp; omega
  have d2 : decide (40 < n) = false := by simp; omega
  have ea1 : decide ((14 : Int) ≤ ka) = false := by simp; omega
  have ea3 : (ka == 17) = false := by simp; omega
  have eb1 : decide ((14 : Int) ≤ kb) = true := by simp; omega
  have eb2 : decide (kb ≤ (16 : Int)) = true := by simp; omega
  have eb3 : (kb == 17) = false := by simp; omega
  go_enter Try.func5, Try.ntmps5
  go_wp2_with (first
    | (go_at_call 8; ((with_reducible refine D1.out.mono ?_); rintro e w1 ⟨rfl, hb⟩; have G1 := Lib.hid (G0.out.below hb (Nat.le_refl _)); have O1 := Lib.hid (O0.out.below hb (Nat.le_refl _)); have P1 := Lib.hid (P0.out.below hb (Nat.le_refl _)); have T1 := Lib.hid (T0.out.trans (hb.mono T0.out.size)); have D2 := Lib.hid (right_eq c HN.out G1.out H40.out HR.out); clear hb))
    | (go_at_call 9; ((with_reducible refine D2.out.mono ?_); rintro e w2 ⟨rfl, hb⟩; have G2 := Lib.hid (G1.out.below hb (Nat.le_refl _)); have O2 := Lib.hid (O1.out.below hb (Nat.le_refl _)); have P2 := Lib.hid (P1.out.below hb (Nat.le_refl _)); have T2 := Lib.hid (T1.out.trans (hb.mono T1.out.size)); obtain ⟨_, q1, _, _⟩ := O2.out; obtain ⟨_, r1, _, _⟩ := P2.out.alloc1 (.cells #[.int .i64 ua, .int .i64 ua] 3); obtain ⟨q4, _, q5, _⟩ := (O2.out.alloc1 (.cells #[.int .i64 ua, .int .i64 ua] 3)).alloc1 (.cells #[.int .i64 ua, .int .i64 ua] 3); obtain ⟨r4, _, r5, _⟩ := (P2.out.alloc1 (.cells #[.int .i64 ua, .int .i64 ua] 3)).alloc1 (.cells #[.int .i64 ua, .int .i64 ua] 3); obtain ⟨q6, _, _, _⟩ := (O2.out.alloc1 (.cells #[.int .i64 ua, .int .i64 ua] 3)).alloc1 (.cells #[.int .i64 ua, .int .i64 vb] 3); obtain ⟨r6, _, _, _⟩ := (P2.out.alloc1 (.cells #[.int .i64 ua, .int .i64 ua] 3)).alloc1 (.cells #[.int .i64 ua, .int .i64 vb] 3); obtain ⟨s0, s1, s2, s3⟩ := two_cells w2 (ua) (ua) (ua) (vb); have H2 := Lib.hid (fun q => T2.out.trans ((two_below w2 (.cells #[.int .i64 ua, .int .i64 ua] 3) (.cells #[.int .i64 ua, .int .i64 vb] 3) q).mono T2.out.size)); clear hb)))
  go_quiet (fail)
  go_wp2
  go_ret
  exact ⟨rfl, H2.out _⟩
set_option maxHeartbeats 16000000 in
set_option maxRecDepth 100000 in
theorem apart_LE_uv (A : Option Addr) (c n : Nat) (g : List Arc) (ka ua va xa kb ub xb : Int) (w : World) (hn : n = g.length) (hl : Arcs w A g) (h40 : n ≤ 40) (hr : rightB g = true) (ha1 : ka < 14) (hb1 : 14 ≤ kb) (hb2 : kb ≤ 16) (hua_ub : ¬ ua = ub) :
    Calls Try.prog 5 #[.slice A n c, .agg #[.int .i64 ka, .int .i64 ua, .int .i64 va, .int .u64 xa], .agg #[.int .i64 kb, .int .i64 ub, .int .i64 ua, .int .u64 xb]] w fun e w' => e = .returned (.bool true) ∧ Below w.heap.size w w' := by
  have T0 := Lib.hid (((Below.refl w.heap.size w).alloc (Nat.le_refl _) (.cells #[.int .i64 ka, .int .i64 ua, .int .i64 va, .int .u64 xa] 25)).alloc (by rw [World.size_alloc]; omega) (.cells #[.int .i64 kb, .int .i64 ub, .int .i64 ua, .int .u64 xb] 25))
  have D1 := Lib.hid (shown_any ((w.alloc (.cells #[.int .i64 ka, .int .i64 ua, .int .i64 va, .int .u64 xa] 25)).alloc (.cells #[.int .i64 kb, .int .i64 ub, .int .i64 ua, .int .u64 xb] 25)))
  have G0 := Lib.hid (hl.below T0.out (Nat.le_refl _))
  have O0 := Lib.hid ((opc_new w (ka) ua va xa).below ((Below.refl _ _).alloc (Nat.le_refl _) (.cells #[.int .i64 kb, .int .i64 ub, .int .i64 ua, .int .u64 xb] 25)) (Nat.le_refl _))
  have P0 := Lib.hid (opc_two w (ka) ua va xa (kb) ub ua xb)
  have HN := Lib.hid hn
  have H40 := Lib.hid (show g.length ≤ 999 from by omega)
  have HR := Lib.hid hr
  clear hl hr hn
  have d1 : decide ((40 : Int) < (n : Int)) = false := by simp; omega
  have d2 : decide (40 < n) = false := by simp; omega
  have ea1 : decide ((14 : Int) ≤ ka) = false := by simp; omega
  have ea3 : (ka == 17) = false := by simp; omega
  have eb1 : decide ((14 : Int) ≤ kb) = true := by simp; omega
  have eb2 : decide (kb ≤ (16 : Int)) = true := by simp; omega
  have eb3 : (kb == 17) = false := by simp; omega
  have i0 : (ua == ub) = false := by simpa using hua_ub
  go_enter Try.func5, Try.ntmps5
  go_wp2_with (first
    | (go_at_call 8; ((with_reducible refine D1.out.mono ?_); rintro e w1 ⟨rfl, hb⟩; have G1 := Lib.hid (G0.out.below hb (Nat.le_refl _)); have O1 := Lib.hid (O0.out.below hb (Nat.le_refl _)); have P1 := Lib.hid (P0.out.below hb (Nat.le_refl _)); have T1 := Lib.hid (T0.out.trans (hb.mono T0.out.size)); have D2 := Lib.hid (right_eq c HN.out G1.out H40.out HR.out); clear hb))
    | (go_at_call 9; ((with_reducible refine D2.out.mono ?_); rintro e w2 ⟨rfl, hb⟩; have G2 := Lib.hid (G1.out.below hb (Nat.le_refl _)); have O2 := Lib.hid (O1.out.below hb (Nat.le_refl _)); have P2 := Lib.hid (P1.out.below hb (Nat.le_refl _)); have T2 := Lib.hid (T1.out.trans (hb.mono T1.out.size)); obtain ⟨_, q1, _, _⟩ := O2.out; obtain ⟨_, r1, _, _⟩ := P2.out.alloc1 (.cells #[.int .i64 ua, .int .i64 ua] 3); obtain ⟨q4, _, q5, _⟩ := (O2.out.alloc1 (.cells #[.int .i64 ua, .int .i64 ua] 3)).alloc1 (.cells #[.int .i64 ub, .int .i64 ub] 3); obtain ⟨r4, _, r5, _⟩ := (P2.out.alloc1 (.cells #[.int .i64 ua, .int .i64 ua] 3)).alloc1 (.cells #[.int .i64 ub, .int .i64 ub] 3); obtain ⟨q6, _, _, _⟩ := (O2.out.alloc1 (.cells #[.int .i64 ua, .int .i64 ua] 3)).alloc1 (.cells #[.int .i64 ub, .int .i64 ua] 3); obtain ⟨r6, _, _, _⟩ := (P2.out.alloc1 (.cells #[.int .i64 ua, .int .i64 ua] 3)).alloc1 (.cells #[.int .i64 ub, .int .i64 ua] 3); obtain ⟨s0, s1, s2, s3⟩ := two_cells w2 (ua) (ua) (ub) (ua); have H2 := Lib.hid (fun q => T2.out.trans ((two_below w2 (.cells #[.int .i64 ua, .int .i64 ua] 3) (.cells #[.int .i64 ub, .int .i64 ua] 3) q).mono T2.out.size)); clear hb)))
  go_quiet (fail)
  go_wp2
  go_ret
  exact ⟨rfl, H2.out _⟩
set_option maxHeartbeats 16000000 in
set_option maxRecDepth 100000 in
theorem apart_LL_uu (A : Option Addr) (c n : Nat) (g : List Arc) (ka ua va xa kb vb xb : Int) (w : World) (hn : n = g.length) (hl : Arcs w A g) (h40 : n ≤ 40) (hr : rightB g = true) (ha1 : ka < 14) (hb1 : kb < 14) :
    Calls Try.prog 5 #[.slice A n c, .agg #[.int .i64 ka, .int .i64 ua, .int .i64 va, .int .u64 xa], .agg #[.int .i64 kb, .int .i64 ua, .int .i64 vb, .int .u64 xb]] w fun e w' => e = .returned (.bool true) ∧ Below w.heap.size w w' := by
  have T0 := Lib.hid (((Below.refl w.heap.size w).alloc (Nat.le_refl _) (.cells #[.int .i64 ka, .int .i64 ua, .int .i64 va, .int .u64 xa] 25)).alloc (by rw [World.size_alloc]; omega) (.cells #[.int .i64 kb, .int .i64 ua, .int .i64 vb, .int .u64 xb] 25))
  have D1 := Lib.hid (shown_any ((w.alloc (.cells #[.int .i64 ka, .int .i64 ua, .int .i64 va, .int .u64 xa] 25)).alloc (.cells #[.int .i64 kb, .int .i64 ua, .int .i64 vb, .int .u64 xb] 25)))
  have G0 := Lib.hid (hl.below T0.out (Nat.le_refl _))
  have O0 := Lib.hid ((opc_new w (ka) ua va xa).below ((Below.refl _ _).alloc (Nat.le_refl _) (.cells #[.int .i64 kb, .int .i64 ua, .int .i64 vb, .int .u64 xb] 25)) (Nat.le_refl _))
  have P0 := Lib.hid (opc_two w (ka) ua va xa (kb) ua vb xb)
  have HN := Lib.hid hn
  have H40 := Lib.hid (show g.length ≤ 999 from by omega)
  have HR := Lib.hid hr
  clear hl hr hn
  have d1 : decide ((40 : Int) < (n : Int)) = false := by simp; omega
  have d2 : decide (40 < n) = false := by simp; omega
  have ea1 : decide ((14 : Int) ≤ ka) = false := by simp; omega
  have ea3 : (ka == 17) = false := by simp; omega
  have eb1 : decide ((14 : Int) ≤ kb) = false := by simp; omega
  have eb3 : (kb == 17) = false := by simp; omega
  go_enter Try.func5, Try.ntmps5
  go_wp2_with (first
    | (go_at_call 8; ((with_reducible refine D1.out.mono ?_); rintro e w1 ⟨rfl, hb⟩; have G1 := Lib.hid (G0.out.below hb (Nat.le_refl _)); have O1 := Lib.hid (O0.out.below hb (Nat.le_refl _)); have P1 := Lib.hid (P0.out.below hb (Nat.le_refl _)); have T1 := Lib.hid (T0.out.trans (hb.mono T0.out.size)); have D2 := Lib.hid (right_eq c HN.out G1.out H40.out HR.out); clear hb))
    | (go_at_call 9; ((with_reducible refine D2.out.mono ?_); rintro e w2 ⟨rfl, hb⟩; have G2 := Lib.hid (G1.out.below hb (Nat.le_refl _)); have O2 := Lib.hid (O1.out.below hb (Nat.le_refl _)); have P2 := Lib.hid (P1.out.below hb (Nat.le_refl _)); have T2 := Lib.hid (T1.out.trans (hb.mono T1.out.size)); obtain ⟨_, q1, _, _⟩ := O2.out; obtain ⟨_, r1, _, _⟩ := P2.out.alloc1 (.cells #[.int .i64 ua, .int .i64 ua] 3); obtain ⟨q4, _, q5, _⟩ := (O2.out.alloc1 (.cells #[.int .i64 ua, .int .i64 ua] 3)).alloc1 (.cells #[.int .i64 ua, .int .i64 ua] 3); obtain ⟨r4, _, r5, _⟩ := (P2.out.alloc1 (.cells #[.int .i64 ua, .int .i64 ua] 3)).alloc1 (.cells #[.int .i64 ua, .int .i64 ua] 3); obtain ⟨q6, _, _, _⟩ := (O2.out.alloc1 (.cells #[.int .i64 ua, .int .i64 ua] 3)).alloc1 (.cells #[.int .i64 ua, .int .i64 ua] 3); obtain ⟨r6, _, _, _⟩ := (P2.out.alloc1 (.cells #[.int .i64 ua, .int .i64 ua] 3)).alloc1 (.cells #[.int .i64 ua, .int .i64 ua] 3); obtain ⟨s0, s1, s2, s3⟩ := two_cells w2 (ua) (ua) (ua) (ua); have H2 := Lib.hid (fun q => T2.out.trans ((two_below w2 (.cells #[.int .i64 ua, .int .i64 ua] 3) (.cells #[.int .i64 ua, .int .i64 ua] 3) q).mono T2.out.size)); clear hb)))
  go_quiet (fail)
  go_wp2
  go_ret
  exact ⟨rfl, H2.out _⟩
set_option maxHeartbeats 16000000 in
set_option maxRecDepth 100000 in
theorem apart_LH_uu (A : Option Addr) (c n : Nat) (g : List Arc) (ka ua va xa kb vb xb : Int) (w : World) (hn : n = g.length) (hl : Arcs w A g) (h40 : n ≤ 40) (hr : rightB g = true) (ha1 : ka < 14) (hb1 : 17 < kb) :
    Calls Try.prog 5 #[.slice A n c, .agg #[.int .i64 ka, .int .i64 ua, .int .i64 va, .int .u64 xa], .agg #[.int .i64 kb, .int .i64 ua, .int .i64 vb, .int .u64 xb]] w fun e w' => e = .returned (.bool true) ∧ Below w.heap.size w w' := by
  have T0 := Lib.hid (((Below.refl w.heap.size w).alloc (Nat.le_refl _) (.cells #[.int .i64 ka, .int .i64 ua, .int .i64 va, .int .u64 xa] 25)).alloc (by rw [World.size_alloc]; omega) (.cells #[.int .i64 kb, .int .i64 ua, .int .i64 vb, .int .u64 xb] 25))
  have D1 := Lib.hid (shown_any ((w.alloc (.cells #[.int .i64 ka, .int .i64 ua, .int .i64 va, .int .u64 xa] 25)).alloc (.cells #[.int .i64 kb, .int .i64 ua, .int .i64 vb, .int .u64 xb] 25)))
  have G0 := Lib.hid (hl.below T0.out (Nat.le_refl _))
  have O0 := Lib.hid ((opc_new w (ka) ua va xa).below ((Below.refl _ _).alloc (Nat.le_refl _) (.cells #[.int .i64 kb, .int .i64 ua, .int .i64 vb, .int .u64 xb] 25)) (Nat.le_refl _))
  have P0 := Lib.hid (opc_two w (ka) ua va xa (kb) ua vb xb)
  have HN := Lib.hid hn
  have H40 := Lib.hid (show g.length ≤ 999 from by omega)
  have HR := Lib.hid hr
  clear hl hr hn
  have d1 : decide ((40 : Int) < (n : Int)) = false := by simp; omega
  have d2 : decide (40 < n) = false := by simp; omega
  have ea1 : decide ((14 : Int) ≤ ka) = false := by simp; omega
  have ea3 : (ka == 17) = false := by simp; omega
  have eb1 : decide ((14 : Int) ≤ kb) = true := by simp; omega
  have eb2 : decide (kb ≤ (16 : Int)) = false := by simp; omega
  have eb3 : (kb == 17) = false := by simp; omega
  go_enter Try.func5, Try.ntmps5
  go_wp2_with (first
    | (go_at_call 8; ((with_reducible refine D1.out.mono ?_); rintro e w1 ⟨rfl, hb⟩; have G1 := Lib.hid (G0.out.below hb (Nat.le_refl _)); have O1 := Lib.hid (O0.out.below hb (Nat.le_refl _)); have P1 := Lib.hid (P0.out.below hb (Nat.le_refl _)); have T1 := Lib.hid (T0.out.trans (hb.mono T0.out.size)); have D2 := Lib.hid (right_eq c HN.out G1.out H40.out HR.out); clear hb))
    | (go_at_call 9; ((with_reducible refine D2.out.mono ?_); rintro e w2 ⟨rfl, hb⟩; have G2 := Lib.hid (G1.out.below hb (Nat.le_refl _)); have O2 := Lib.hid (O1.out.below hb (Nat.le_refl _)); have P2 := Lib.hid (P1.out.below hb (Nat.le_refl _)); have T2 := Lib.hid (T1.out.trans (hb.mono T1.out.size)); obtain ⟨_, q1, _, _⟩ := O2.out; obtain ⟨_, r1, _, _⟩ := P2.out.alloc1 (.cells #[.int .i64 ua, .int .i64 ua] 3); obtain ⟨q4, _, q5, _⟩ := (O2.out.alloc1 (.cells #[.int .i64 ua, .int .i64 ua] 3)).alloc1 (.cells #[.int .i64 ua, .int .i64 ua] 3); obtain ⟨r4, _, r5, _⟩ := (P2.out.alloc1 (.cells #[.int .i64 ua, .int .i64 ua] 3)).alloc1 (.cells #[.int .i64 ua, .int .i64 ua] 3); obtain ⟨q6, _, _, _⟩ := (O2.out.alloc1 (.cells #[.int .i64 ua, .int .i64 ua] 3)).alloc1 (.cells #[.int .i64 ua, .int .i64 ua] 3); obtain ⟨r6, _, _, _⟩ := (P2.out.alloc1 (.cells #[.int .i64 ua, .int .i64 ua] 3)).alloc1 (.cells #[.int .i64 ua, .int .i64 ua] 3); obtain ⟨s0, s1, s2, s3⟩ := two_cells w2 (ua) (ua) (ua) (ua); have H2 := Lib.hid (fun q => T2.out.trans ((two_below w2 (.cells #[.int .i64 ua, .int .i64 ua] 3) (.cells #[.int .i64 ua, .int .i64 ua] 3) q).mono T2.out.size)); clear hb)))
  go_quiet (fail)
  go_wp2
  go_ret
  exact ⟨rfl, H2.out _⟩
set_option maxHeartbeats 16000000 in
set_option maxRecDepth 100000 in
theorem apart_LS_near (A : Option Addr) (c n : Nat) (g : List Arc) (ka ua va xa ub vb xb : Int) (w : World) (hn : n = g.length) (hl : Arcs w A g) (h40 : n ≤ 40) (hr : rightB g = true) (ha1 : ka < 14) :
    Calls Try.prog 5 #[.slice A n c, .agg #[.int .i64 ka, .int .i64 ua, .int .i64 va, .int .u64 xa], .agg #[.int .i64 17, .int .i64 ub, .int .i64 vb, .int .u64 xb]] w fun e w' => e = .returned (.bool true) ∧ Below w.heap.size w w' := by
  have T0 := Lib.hid (((Below.refl w.heap.size w).alloc (Nat.le_refl _) (.cells #[.int .i64 ka, .int .i64 ua, .int .i64 va, .int .u64 xa] 25)).alloc (by rw [World.size_alloc]; omega) (.cells #[.int .i64 17, .int .i64 ub, .int .i64 vb, .int .u64 xb] 25))
  have D1 := Lib.hid (shown_any ((w.alloc (.cells #[.int .i64 ka, .int .i64 ua, .int .i64 va, .int .u64 xa] 25)).alloc (.cells #[.int .i64 17, .int .i64 ub, .int .i64 vb, .int .u64 xb] 25)))
  have G0 := Lib.hid (hl.below T0.out (Nat.le_refl _))
  have O0 := Lib.hid ((opc_new w (ka) ua va xa).below ((Below.refl _ _).alloc (Nat.le_refl _) (.cells #[.int .i64 17, .int .i64 ub, .int .i64 vb, .int .u64 xb] 25)) (Nat.le_refl _))
  have P0 := Lib.hid (opc_two w (ka) ua va xa (17) ub vb xb)
  have HN := Lib.hid hn
  have H40 := Lib.hid (show g.length ≤ 999 from by omega)
  have HR := Lib.hid hr
  clear hl hr hn
  have d1 : decide ((40 : Int) < (n : Int)) = false := by simp; omega
  have d2 : decide (40 < n) = false := by simp; omega
  have ea1 : decide ((14 : Int) ≤ ka) = false := by simp; omega
  have ea3 : (ka == 17) = false := by simp; omega
  go_enter Try.func5, Try.ntmps5
  go_wp2_with (first
    | (go_at_call 8; ((with_reducible refine D1.out.mono ?_); rintro e w1 ⟨rfl, hb⟩; have G1 := Lib.hid (G0.out.below hb (Nat.le_refl _)); have O1 := Lib.hid (O0.out.below hb (Nat.le_refl _)); have P1 := Lib.hid (P0.out.below hb (Nat.le_refl _)); have T1 := Lib.hid (T0.out.trans (hb.mono T0.out.size)); have D2 := Lib.hid (right_eq c HN.out G1.out H40.out HR.out); clear hb))
    | (go_at_call 9; ((with_reducible refine D2.out.mono ?_); rintro e w2 ⟨rfl, hb⟩; have G2 := Lib.hid (G1.out.below hb (Nat.le_refl _)); have O2 := Lib.hid (O1.out.below hb (Nat.le_refl _)); have P2 := Lib.hid (P1.out.below hb (Nat.le_refl _)); have T2 := Lib.hid (T1.out.trans (hb.mono T1.out.size)); obtain ⟨_, q1, _, _⟩ := O2.out; obtain ⟨_, r1, _, _⟩ := P2.out.alloc1 (.cells #[.int .i64 ua, .int .i64 ua] 3); obtain ⟨q4, _, q5, _⟩ := (O2.out.alloc1 (.cells #[.int .i64 ua, .int .i64 ua] 3)).alloc1 (.cells #[.int .i64 ub, .int .i64 ub] 3); obtain ⟨r4, _, r5, _⟩ := (P2.out.alloc1 (.cells #[.int .i64 ua, .int .i64 ua] 3)).alloc1 (.cells #[.int .i64 ub, .int .i64 ub] 3); obtain ⟨q6, _, _, _⟩ := (O2.out.alloc1 (.cells #[.int .i64 ua, .int .i64 ua] 3)).alloc1 (.cells #[.int .i64 ub, .int .i64 ub] 3); obtain ⟨r6, _, _, _⟩ := (P2.out.alloc1 (.cells #[.int .i64 ua, .int .i64 ua] 3)).alloc1 (.cells #[.int .i64 ub, .int .i64 ub] 3); obtain ⟨s0, s1, s2, s3⟩ := two_cells w2 (ua) (ua) (ub) (ub); have H2 := Lib.hid (fun q => T2.out.trans ((two_below w2 (.cells #[.int .i64 ua, .int .i64 ua] 3) (.cells #[.int .i64 ub, .int .i64 ub] 3) q).mono T2.out.size)); clear hb)))
  go_quiet (fail)
  go_wp2
  go_ret
  exact ⟨rfl, H2.out _⟩
set_option maxHeartbeats 16000000 in
set_option maxRecDepth 100000 in
theorem apart_HE_uu (A : Option Addr) (c n : Nat) (g : List Arc) (ka ua va xa kb vb xb : Int) (w : World) (hn : n = g.length) (hl : Arcs w A g) (h40 : n ≤ 40) (hr : rightB g = true) (ha1 : 17 < ka) (hb1 : 14 ≤ kb) (hb2 : kb ≤ 16) :
    Calls Try.prog 5 #[.slice A n c, .agg #[.int .i64 ka, .int .i64 ua, .int .i64 va, .int .u64 xa], .agg #[.int .i64 kb, .int .i64 ua, .int .i64 vb, .int .u64 xb]] w fun e w' => e = .returned (.bool true) ∧ Below w.heap.size w w' := by
  have T0 := Lib.hid (((Below.refl w.heap.size w).alloc (Nat.le_refl _) (.cells #[.int .i64 ka, .int .i64 ua, .int .i64 va, .int .u64 xa] 25)).alloc (by rw [World.size_alloc]; omega) (.cells #[.int .i64 kb, .int .i64 ua, .int .i64 vb, .int .u64 xb] 25))
  have D1 := Lib.hid (shown_any ((w.alloc (.cells #[.int .i64 ka, .int .i64 ua, .int .i64 va, .int .u64 xa] 25)).alloc (.cells #[.int .i64 kb, .int .i64 ua, .int .i64 vb, .int .u64 xb] 25)))
  have G0 := Lib.hid (hl.below T0.out (Nat.le_refl _))
  have O0 := Lib.hid ((opc_new w (ka) ua va xa).below ((Below.refl _ _).alloc (Nat.le_refl _) (.cells #[.int .i64 kb, .int .i64 ua, .int .i64 vb, .int .u64 xb] 25)) (Nat.le_refl _))
  have P0 := Lib.hid (opc_two w (ka) ua va xa (kb) ua vb xb)
  have HN := Lib.hid hn
  have H40 := Lib.hid (show g.length ≤ 999 from by omega)
  have HR := Lib.hid hr
  clear hl hr hn
  have d1 : decide ((40 : Int) < (n : Int)) = false := by simp; omega
  have d2 : decide (40 < n) = false := by simp; omega
  have ea1 : decide ((14 : Int) ≤ ka) = true := by simp; omega
  have ea2 : decide (ka ≤ (16 : Int)) = false := by simp; omega
  have ea3 : (ka == 17) = false := by simp; omega
  have eb1 : decide ((14 : Int) ≤ kb) = true := by simp; omega
  have eb2 : decide (kb ≤ (16 : Int)) = true := by simp; omega
  have eb3 : (kb == 17) = false := by simp; omega
  go_enter Try.func5, Try.ntmps5
  go_wp2_with (first
    | (go_at_call 8; ((with_reducible refine D1.out.mono ?_); rintro e w1 ⟨rfl, hb⟩; have G1 := Lib.hid (G0.out.below hb (Nat.le_refl _)); have O1 := Lib.hid (O0.out.below hb (Nat.le_refl _)); have P1 := Lib.hid (P0.out.below hb (Nat.le_refl _)); have T1 := Lib.hid (T0.out.trans (hb.mono T0.out.size)); have D2 := Lib.hid (right_eq c HN.out G1.out H40.out HR.out); clear hb))
    | (go_at_call 9; ((with_reducible refine D2.out.mono ?_); rintro e w2 ⟨rfl, hb⟩; have G2 := Lib.hid (G1.out.below hb (Nat.le_refl _)); have O2 := Lib.hid (O1.out.below hb (Nat.le_refl _)); have P2 := Lib.hid (P1.out.below hb (Nat.le_refl _)); have T2 := Lib.hid (T1.out.trans (hb.mono T1.out.size)); obtain ⟨_, q1, _, _⟩ := O2.out; obtain ⟨_, r1, _, _⟩ := P2.out.alloc1 (.cells #[.int .i64 ua, .int .i64 ua] 3); obtain ⟨q4, _, q5, _⟩ := (O2.out.alloc1 (.cells #[.int .i64 ua, .int .i64 ua] 3)).alloc1 (.cells #[.int .i64 ua, .int .i64 ua] 3); obtain ⟨r4, _, r5, _⟩ := (P2.out.alloc1 (.cells #[.int .i64 ua, .int .i64 ua] 3)).alloc1 (.cells #[.int .i64 ua, .int .i64 ua] 3); obtain ⟨q6, _, _, _⟩ := (O2.out.alloc1 (.cells #[.int .i64 ua, .int .i64 ua] 3)).alloc1 (.cells #[.int .i64 ua, .int .i64 vb] 3); obtain ⟨r6, _, _, _⟩ := (P2.out.alloc1 (.cells #[.int .i64 ua, .int .i64 ua] 3)).alloc1 (.cells #[.int .i64 ua, .int .i64 vb] 3); obtain ⟨s0, s1, s2, s3⟩ := two_cells w2 (ua) (ua) (ua) (vb); have H2 := Lib.hid (fun q => T2.out.trans ((two_below w2 (.cells #[.int .i64 ua, .int .i64 ua] 3) (.cells #[.int .i64 ua, .int .i64 vb] 3) q).mono T2.out.size)); clear hb)))
  go_quiet (fail)
  go_wp2
  go_ret
  exact ⟨rfl, H2.out _⟩
set_option maxHeartbeats 16000000 in
set_option maxRecDepth 100000 in
theorem apart_HE_uv (A : Option Addr) (c n : Nat) (g : List Arc) (ka ua va xa kb ub xb : Int) (w : World) (hn : n = g.length) (hl : Arcs w A g) (h40 : n ≤ 40) (hr : rightB g = true) (ha1 : 17 < ka) (hb1 : 14 ≤ kb) (hb2 : kb ≤ 16) (hua_ub : ¬ ua = ub) :
    Calls Try.prog 5 #[.slice A n c, .agg #[.int .i64 ka, .int .i64 ua, .int .i64 va, .int .u64 xa], .agg #[.int .i64 kb, .int .i64 ub, .int .i64 ua, .int .u64 xb]] w fun e w' => e = .returned (.bool true) ∧ Below w.heap.size w w' := by
  have T0 := Lib.hid (((Below.refl w.heap.size w).alloc (Nat.le_refl _) (.cells #[.int .i64 ka, .int .i64 ua, .int .i64 va, .int .u64 xa] 25)).alloc (by rw [World.size_alloc]; omega) (.cells #[.int .i64 kb, .int .i64 ub, .int .i64 ua, .int .u64 xb] 25))
  have D1 := Lib.hid (shown_any ((w.alloc (.cells #[.int .i64 ka, .int .i64 ua, .int .i64 va, .int .u64 xa] 25)).alloc (.cells #[.int .i64 kb, .int .i64 ub, .int .i64 ua, .int .u64 xb] 25)))
  have G0 := Lib.hid (hl.below T0.out (Nat.le_refl _))
  have O0 := Lib.hid ((opc_new w (ka) ua va xa).below ((Below.refl _ _).alloc (Nat.le_refl _) (.cells #[.int .i64 kb, .int .i64 ub, .int .i64 ua, .int .u64 xb] 25)) (Nat.le_refl _))
  have P0 := Lib.hid (opc_two w (ka) ua va xa (kb) ub ua xb)
  have HN := Lib.hid hn
  have H40 := Lib.hid (show g.length ≤ 999 from by omega)
  have HR := Lib.hid hr
  clear hl hr hn
  have d1 : decide ((40 : Int) < (n : Int)) = false := by simp; omega
  have d2 : decide (40 < n) = false := by simp; omega
  have ea1 : decide ((14 : Int) ≤ ka) = true := by simp; omega
  have ea2 : decide (ka ≤ (16 : Int)) = false := by simp; omega
  have ea3 : (ka == 17) = false := by simp; omega
  have eb1 : decide ((14 : Int) ≤ kb) = true := by simp; omega
  have eb2 : decide (kb ≤ (16 : Int)) = true := by simp; omega
  have eb3 : (kb == 17) = false := by simp; omega
  have i0 : (ua == ub) = false := by simpa using hua_ub
  go_enter Try.func5, Try.ntmps5
  go_wp2_with (first
    | (go_at_call 8; ((with_reducible refine D1.out.mono ?_); rintro e w1 ⟨rfl, hb⟩; have G1 := Lib.hid (G0.out.below hb (Nat.le_refl _)); have O1 := Lib.hid (O0.out.below hb (Nat.le_refl _)); have P1 := Lib.hid (P0.out.below hb (Nat.le_refl _)); have T1 := Lib.hid (T0.out.trans (hb.mono T0.out.size)); have D2 := Lib.hid (right_eq c HN.out G1.out H40.out HR.out); clear hb))
    | (go_at_call 9; ((with_reducible refine D2.out.mono ?_); rintro e w2 ⟨rfl, hb⟩; have G2 := Lib.hid (G1.out.below hb (Nat.le_refl _)); have O2 := Lib.hid (O1.out.below hb (Nat.le_refl _)); have P2 := Lib.hid (P1.out.below hb (Nat.le_refl _)); have T2 := Lib.hid (T1.out.trans (hb.mono T1.out.size)); obtain ⟨_, q1, _, _⟩ := O2.out; obtain ⟨_, r1, _, _⟩ := P2.out.alloc1 (.cells #[.int .i64 ua, .int .i64 ua] 3); obtain ⟨q4, _, q5, _⟩ := (O2.out.alloc1 (.cells #[.int .i64 ua, .int .i64 ua] 3)).alloc1 (.cells #[.int .i64 ub, .int .i64 ub] 3); obtain ⟨r4, _, r5, _⟩ := (P2.out.alloc1 (.cells #[.int .i64 ua, .int .i64 ua] 3)).alloc1 (.cells #[.int .i64 ub, .int .i64 ub] 3); obtain ⟨q6, _, _, _⟩ := (O2.out.alloc1 (.cells #[.int .i64 ua, .int .i64 ua] 3)).alloc1 (.cells #[.int .i64 ub, .int .i64 ua] 3); obtain ⟨r6, _, _, _⟩ := (P2.out.alloc1 (.cells #[.int .i64 ua, .int .i64 ua] 3)).alloc1 (.cells #[.int .i64 ub, .int .i64 ua] 3); obtain ⟨s0, s1, s2, s3⟩ := two_cells w2 (ua) (ua) (ub) (ua); have H2 := Lib.hid (fun q => T2.out.trans ((two_below w2 (.cells #[.int .i64 ua, .int .i64 ua] 3) (.cells #[.int .i64 ub, .int .i64 ua] 3) q).mono T2.out.size)); clear hb)))
  go_quiet (fail)
  go_wp2
  go_ret
  exact ⟨rfl, H2.out _⟩
set_option maxHeartbeats 16000000 in
set_option maxRecDepth 100000 in
theorem apart_HL_uu (A : Option Addr) (c n : Nat) (g : List Arc) (ka ua va xa kb vb xb : Int) (w : World) (hn : n = g.length) (hl : Arcs w A g) (h40 : n ≤ 40) (hr : rightB g = true) (ha1 : 17 < ka) (hb1 : kb < 14) :
    Calls Try.prog 5 #[.slice A n c, .agg #[.int .i64 ka, .int .i64 ua, .int .i64 va, .int .u64 xa], .agg #[.int .i64 kb, .int .i64 ua, .int .i64 vb, .int .u64 xb]] w fun e w' => e = .returned (.bool true) ∧ Below w.heap.size w w' := by
  have T0 := Lib.hid (((Below.refl w.heap.size w).alloc (Nat.le_refl _) (.cells #[.int .i64 ka, .int .i64 ua, .int .i64 va, .int .u64 xa] 25)).alloc (by rw [World.size_alloc]; omega) (.cells #[.int .i64 kb, .int .i64 ua, .int .i64 vb, .int .u64 xb] 25))
  have D1 := Lib.hid (shown_any ((w.alloc (.cells #[.int .i64 ka, .int .i64 ua, .int .i64 va, .int .u64 xa] 25)).alloc (.cells #[.int .i64 kb, .int .i64 ua, .int .i64 vb, .int .u64 xb] 25)))
  have G0 := Lib.hid (hl.below T0.out (Nat.le_refl _))
  have O0 := Lib.hid ((opc_new w (ka) ua va xa).below ((Below.refl _ _).alloc (Nat.le_refl _) (.cells #[.int .i64 kb, .int .i64 ua, .int .i64 vb, .int .u64 xb] 25)) (Nat.le_refl _))
  have P0 := Lib.hid (opc_two w (ka) ua va xa (kb) ua vb xb)
  have HN := Lib.hid hn
  have H40 := Lib.hid (show g.length ≤ 999 from by omega)
  have HR := Lib.hid hr
  clear hl hr hn
  have d1 : decide ((40 : Int) < (n : Int)) = false := by simp; omega
  have d2 : decide (40 < n) = false := by simp; omega
  have ea1 : decide ((14 : Int) ≤ ka) = true := by simp; omega
  have ea2 : decide (ka ≤ (16 : Int)) = false := by simp; omega
  have ea3 : (ka == 17) = false := by simp; omega
  have eb1 : decide ((14 : Int) ≤ kb) = false := by simp; omega
  have eb3 : (kb == 17) = false := by simp; omega
  go_enter Try.func5, Try.ntmps5
  go_wp2_with (first
    | (go_at_call 8; ((with_reducible refine D1.out.mono ?_); rintro e w1 ⟨rfl, hb⟩; have G1 := Lib.hid (G0.out.below hb (Nat.le_refl _)); have O1 := Lib.hid (O0.out.below hb (Nat.le_refl _)); have P1 := Lib.hid (P0.out.below hb (Nat.le_refl _)); have T1 := Lib.hid (T0.out.trans (hb.mono T0.out.size)); have D2 := Lib.hid (right_eq c HN.out G1.out H40.out HR.out); clear hb))
    | (go_at_call 9; ((with_reducible refine D2.out.mono ?_); rintro e w2 ⟨rfl, hb⟩; have G2 := Lib.hid (G1.out.below hb (Nat.le_refl _)); have O2 := Lib.hid (O1.out.below hb (Nat.le_refl _)); have P2 := Lib.hid (P1.out.below hb (Nat.le_refl _)); have T2 := Lib.hid (T1.out.trans (hb.mono T1.out.size)); obtain ⟨_, q1, _, _⟩ := O2.out; obtain ⟨_, r1, _, _⟩ := P2.out.alloc1 (.cells #[.int .i64 ua, .int .i64 ua] 3); obtain ⟨q4, _, q5, _⟩ := (O2.out.alloc1 (.cells #[.int .i64 ua, .int .i64 ua] 3)).alloc1 (.cells #[.int .i64 ua, .int .i64 ua] 3); obtain ⟨r4, _, r5, _⟩ := (P2.out.alloc1 (.cells #[.int .i64 ua, .int .i64 ua] 3)).alloc1 (.cells #[.int .i64 ua, .int .i64 ua] 3); obtain ⟨q6, _, _, _⟩ := (O2.out.alloc1 (.cells #[.int .i64 ua, .int .i64 ua] 3)).alloc1 (.cells #[.int .i64 ua, .int .i64 ua] 3); obtain ⟨r6, _, _, _⟩ := (P2.out.alloc1 (.cells #[.int .i64 ua, .int .i64 ua] 3)).alloc1 (.cells #[.int .i64 ua, .int .i64 ua] 3); obtain ⟨s0, s1, s2, s3⟩ := two_cells w2 (ua) (ua) (ua) (ua); have H2 := Lib.hid (fun q => T2.out.trans ((two_below w2 (.cells #[.int .i64 ua, .int .i64 ua] 3) (.cells #[.int .i64 ua, .int .i64 ua] 3) q).mono T2.out.size)); clear hb)))
  go_quiet (fail)
  go_wp2
  go_ret
  exact ⟨rfl, H2.out _⟩
set_option maxHeartbeats 16000000 in
set_option maxRecDepth 100000 in
theorem apart_HH_uu (A : Option Addr) (c n : Nat) (g : List Arc) (ka ua va xa kb vb xb : Int) (w : World) (hn : n = g.length) (hl : Arcs w A g) (h40 : n ≤ 40) (hr : rightB g = true) (ha1 : 17 < ka) (hb1 : 17 < kb) :
    Calls Try.prog 5 #[.slice A n c, .agg #[.int .i64 ka, .int .i64 ua, .int .i64 va, .int .u64 xa], .agg #[.int .i64 kb, .int .i64 ua, .int .i64 vb, .int .u64 xb]] w fun e w' => e = .returned (.bool true) ∧ Below w.heap.size w w' := by
  have T0 := Lib.hid (((Below.refl w.heap.size w).alloc (Nat.le_refl _) (.cells #[.int .i64 ka, .int .i64 ua, .int .i64 va, .int .u64 xa] 25)).alloc (by rw [World.size_alloc]; omega) (.cells #[.int .i64 kb, .int .i64 ua, .int .i64 vb, .int .u64 xb] 25))
  have D1 := Lib.hid (shown_any ((w.alloc (.cells #[.int .i64 ka, .int .i64 ua, .int .i64 va, .int .u64 xa] 25)).alloc (.cells #[.int .i64 kb, .int .i64 ua, .int .i64 vb, .int .u64 xb] 25)))
  have G0 := Lib.hid (hl.below T0.out (Nat.le_refl _))
  have O0 := Lib.hid ((opc_new w (ka) ua va xa).below ((Below.refl _ _).alloc (Nat.le_refl _) (.cells #[.int .i64 kb, .int .i64 ua, .int .i64 vb, .int .u64 xb] 25)) (Nat.le_refl _))
  have P0 := Lib.hid (opc_two w (ka) ua va xa (kb) ua vb xb)
  have HN := Lib.hid hn
  have H40 := Lib.hid (show g.length ≤ 999 from by omega)
  have HR := Lib.hid hr
  clear hl hr hn
  have d1 : decide ((40 : Int) < (n : Int)) = false := by simp; omega
  have d2 : decide (40 < n) = false := by simp; omega
  have ea1 : decide ((14 : Int) ≤ ka) = true := by simp; omega
  have ea2 : decide (ka ≤ (16 : Int)) = false := by simp; omega
  have ea3 : (ka == 17) = false := by simp; omega
  have eb1 : decide ((14 : Int) ≤ kb) = true := by simp; omega
  have eb2 : decide (kb ≤ (16 : Int)) = false := by simp; omega
  have eb3 : (kb == 17) = false := by simp; omega
  go_enter Try.func5, Try.ntmps5
  go_wp2_with (first
    | (go_at_call 8; ((with_reducible refine D1.out.mono ?_); rintro e w1 ⟨rfl, hb⟩; have G1 := Lib.hid (G0.out.below hb (Nat.le_refl _)); have O1 := Lib.hid (O0.out.below hb (Nat.le_refl _)); have P1 := Lib.hid (P0.out.below hb (Nat.le_refl _)); have T1 := Lib.hid (T0.out.trans (hb.mono T0.out.size)); have D2 := Lib.hid (right_eq c HN.out G1.out H40.out HR.out); clear hb))
    | (go_at_call 9; ((with_reducible refine D2.out.mono ?_); rintro e w2 ⟨rfl, hb⟩; have G2 := Lib.hid (G1.out.below hb (Nat.le_refl _)); have O2 := Lib.hid (O1.out.below hb (Nat.le_refl _)); have P2 := Lib.hid (P1.out.below hb (Nat.le_refl _)); have T2 := Lib.hid (T1.out.trans (hb.mono T1.out.size)); obtain ⟨_, q1, _, _⟩ := O2.out; obtain ⟨_, r1, _, _⟩ := P2.out.alloc1 (.cells #[.int .i64 ua, .int .i64 ua] 3); obtain ⟨q4, _, q5, _⟩ := (O2.out.alloc1 (.cells #[.int .i64 ua, .int .i64 ua] 3)).alloc1 (.cells #[.int .i64 ua, .int .i64 ua] 3); obtain ⟨r4, _, r5, _⟩ := (P2.out.alloc1 (.cells #[.int .i64 ua, .int .i64 ua] 3)).alloc1 (.cells #[.int .i64 ua, .int .i64 ua] 3); obtain ⟨q6, _, _, _⟩ := (O2.out.alloc1 (.cells #[.int .i64 ua, .int .i64 ua] 3)).alloc1 (.cells #[.int .i64 ua, .int .i64 ua] 3); obtain ⟨r6, _, _, _⟩ := (P2.out.alloc1 (.cells #[.int .i64 ua, .int .i64 ua] 3)).alloc1 (.cells #[.int .i64 ua, .int .i64 ua] 3); obtain ⟨s0, s1, s2, s3⟩ := two_cells w2 (ua) (ua) (ua) (ua); have H2 := Lib.hid (fun q => T2.out.trans ((two_below w2 (.cells #[.int .i64 ua, .int .i64 ua] 3) (.cells #[.int .i64 ua, .int .i64 ua] 3) q).mono T2.out.size)); clear hb)))
  go_quiet (fail)
  go_wp2
  go_ret
  exact ⟨rfl, H2.out _⟩
set_option maxHeartbeats 16000000 in
set_option maxRecDepth 100000 in
theorem apart_HS_near (A : Option Addr) (c n : Nat) (g : List Arc) (ka ua va xa ub vb xb : Int) (w : World) (hn : n = g.length) (hl : Arcs w A g) (h40 : n ≤ 40) (hr : rightB g = true) (ha1 : 17 < ka) :
    Calls Try.prog 5 #[.slice A n c, .agg #[.int .i64 ka, .int .i64 ua, .int .i64 va, .int .u64 xa], .agg #[.int .i64 17, .int .i64 ub, .int .i64 vb, .int .u64 xb]] w fun e w' => e = .returned (.bool true) ∧ Below w.heap.size w w' := by
  have T0 := Lib.hid (((Below.refl w.heap.size w).alloc (Nat.le_refl _) (.cells #[.int .i64 ka, .int .i64 ua, .int .i64 va, .int .u64 xa] 25)).alloc (by rw [World.size_alloc]; omega) (.cells #[.int .i64 17, .int .i64 ub, .int .i64 vb, .int .u64 xb] 25))
  have D1 := Lib.hid (shown_any ((w.alloc (.cells #[.int .i64 ka, .int .i64 ua, .int .i64 va, .int .u64 xa] 25)).alloc (.cells #[.int .i64 17, .int .i64 ub, .int .i64 vb, .int .u64 xb] 25)))
  have G0 := Lib.hid (hl.below T0.out (Nat.le_refl _))
  have O0 := Lib.hid ((opc_new w (ka) ua va xa).below ((Below.refl _ _).alloc (Nat.le_refl _) (.cells #[.int .i64 17, .int .i64 ub, .int .i64 vb, .int .u64 xb] 25)) (Nat.le_refl _))
  have P0 := Lib.hid (opc_two w (ka) ua va xa (17) ub vb xb)
  have HN := Lib.hid hn
  have H40 := Lib.hid (show g.length ≤ 999 from by omega)
  have HR := Lib.hid hr
  clear hl hr hn
  have d1 : decide ((40 : Int) < (n : Int)) = false := by simp; omega
  have d2 : decide (40 < n) = false := by simp; omega
  have ea1 : decide ((14 : Int) ≤ ka) = true := by simp; omega
  have ea2 : decide (ka ≤ (16 : Int)) = false := by simp; omega
  have ea3 : (ka == 17) = false := by simp; omega
  go_enter Try.func5, Try.ntmps5
  go_wp2_with (first
    | (go_at_call 8; ((with_reducible refine D1.out.mono ?_); rintro e w1 ⟨rfl, hb⟩; have G1 := Lib.hid (G0.out.below hb (Nat.le_refl _)); have O1 := Lib.hid (O0.out.below hb (Nat.le_refl _)); have P1 := Lib.hid (P0.out.below hb (Nat.le_refl _)); have T1 := Lib.hid (T0.out.trans (hb.mono T0.out.size)); have D2 := Lib.hid (right_eq c HN.out G1.out H40.out HR.out); clear hb))
    | (go_at_call 9; ((with_reducible refine D2.out.mono ?_); rintro e w2 ⟨rfl, hb⟩; have G2 := Lib.hid (G1.out.below hb (Nat.le_refl _)); have O2 := Lib.hid (O1.out.below hb (Nat.le_refl _)); have P2 := Lib.hid (P1.out.below hb (Nat.le_refl _)); have T2 := Lib.hid (T1.out.trans (hb.mono T1.out.size)); obtain ⟨_, q1, _, _⟩ := O2.out; obtain ⟨_, r1, _, _⟩ := P2.out.alloc1 (.cells #[.int .i64 ua, .int .i64 ua] 3); obtain ⟨q4, _, q5, _⟩ := (O2.out.alloc1 (.cells #[.int .i64 ua, .int .i64 ua] 3)).alloc1 (.cells #[.int .i64 ub, .int .i64 ub] 3); obtain ⟨r4, _, r5, _⟩ := (P2.out.alloc1 (.cells #[.int .i64 ua, .int .i64 ua] 3)).alloc1 (.cells #[.int .i64 ub, .int .i64 ub] 3); obtain ⟨q6, _, _, _⟩ := (O2.out.alloc1 (.cells #[.int .i64 ua, .int .i64 ua] 3)).alloc1 (.cells #[.int .i64 ub, .int .i64 ub] 3); obtain ⟨r6, _, _, _⟩ := (P2.out.alloc1 (.cells #[.int .i64 ua, .int .i64 ua] 3)).alloc1 (.cells #[.int .i64 ub, .int .i64 ub] 3); obtain ⟨s0, s1, s2, s3⟩ := two_cells w2 (ua) (ua) (ub) (ub); have H2 := Lib.hid (fun q => T2.out.trans ((two_below w2 (.cells #[.int .i64 ua, .int .i64 ua] 3) (.cells #[.int .i64 ub, .int .i64 ub] 3) q).mono T2.out.size)); clear hb)))
  go_quiet (fail)
  go_wp2
  go_ret
  exact ⟨rfl, H2.out _⟩
set_option maxHeartbeats 16000000 in
set_option maxRecDepth 100000 in
theorem apart_SE_near (A : Option Addr) (c n : Nat) (g : List Arc) (ua va xa kb ub vb xb : Int) (w : World) (hn : n = g.length) (hl : Arcs w A g) (h40 : n ≤ 40) (hr : rightB g = true) (hb1 : 14 ≤ kb) (hb2 : kb ≤ 16) :
    Calls Try.prog 5 #[.slice A n c, .agg #[.int .i64 17, .int .i64 ua, .int .i64 va, .int .u64 xa], .agg #[.int .i64 kb, .int .i64 ub, .int .i64 vb, .int .u64 xb]] w fun e w' => e = .returned (.bool true) ∧ Below w.heap.size w w' := by
  have T0 := Lib.hid (((Below.refl w.heap.size w).alloc (Nat.le_refl _) (.cells #[.int .i64 17, .int .i64 ua, .int .i64 va, .int .u64 xa] 25)).alloc (by rw [World.size_alloc]; omega) (.cells #[.int .i64 kb, .int .i64 ub, .int .i64 vb, .int .u64 xb] 25))
  have D1 := Lib.hid (shown_any ((w.alloc (.cells #[.int .i64 17, .int .i64 ua, .int .i64 va, .int .u64 xa] 25)).alloc (.cells #[.int .i64 kb, .int .i64 ub, .int .i64 vb, .int .u64 xb] 25)))
  have G0 := Lib.hid (hl.below T0.out (Nat.le_refl _))
  have O0 := Lib.hid ((opc_new w (17) ua va xa).below ((Below.refl _ _).alloc (Nat.le_refl _) (.cells #[.int .i64 kb, .int .i64 ub, .int .i64 vb, .int .u64 xb] 25)) (Nat.le_refl _))
  have P0 := Lib.hid (opc_two w (17) ua va xa (kb) ub vb xb)
  have HN := Lib.hid hn
  have H40 := Lib.hid (show g.length ≤ 999 from by omega)
  have HR := Lib.hid hr
  clear hl hr hn
  have d1 : decide ((40 : Int) < (n : Int)) = false := by simp; omega
  have d2 : decide (40 < n) = false := by simp; omega
  have eb1 : decide ((14 : Int) ≤ kb) = true := by simp; omega
  have eb2 : decide (kb ≤ (16 : Int)) = true := by simp; omega
  have eb3 : (kb == 17) = false := by simp; omega
  go_enter Try.func5, Try.ntmps5
  go_wp2_with (first
    | (go_at_call 8; ((with_reducible refine D1.out.mono ?_); rintro e w1 ⟨rfl, hb⟩; have G1 := Lib.hid (G0.out.below hb (Nat.le_refl _)); have O1 := Lib.hid (O0.out.below hb (Nat.le_refl _)); have P1 := Lib.hid (P0.out.below hb (Nat.le_refl _)); have T1 := Lib.hid (T0.out.trans (hb.mono T0.out.size)); have D2 := Lib.hid (right_eq c HN.out G1.out H40.out HR.out); clear hb))
    | (go_at_call 9; ((with_reducible refine D2.out.mono ?_); rintro e w2 ⟨rfl, hb⟩; have G2 := Lib.hid (G1.out.below hb (Nat.le_refl _)); have O2 := Lib.hid (O1.out.below hb (Nat.le_refl _)); have P2 := Lib.hid (P1.out.below hb (Nat.le_refl _)); have T2 := Lib.hid (T1.out.trans (hb.mono T1.out.size)); obtain ⟨_, q1, _, _⟩ := O2.out; obtain ⟨_, r1, _, _⟩ := P2.out.alloc1 (.cells #[.int .i64 ua, .int .i64 ua] 3); obtain ⟨q4, _, q5, _⟩ := (O2.out.alloc1 (.cells #[.int .i64 ua, .int .i64 ua] 3)).alloc1 (.cells #[.int .i64 ub, .int .i64 ub] 3); obtain ⟨r4, _, r5, _⟩ := (P2.out.alloc1 (.cells #[.int .i64 ua, .int .i64 ua] 3)).alloc1 (.cells #[.int .i64 ub, .int .i64 ub] 3); obtain ⟨q6, _, _, _⟩ := (O2.out.alloc1 (.cells #[.int .i64 ua, .int .i64 ua] 3)).alloc1 (.cells #[.int .i64 ub, .int .i64 vb] 3); obtain ⟨r6, _, _, _⟩ := (P2.out.alloc1 (.cells #[.int .i64 ua, .int .i64 ua] 3)).alloc1 (.cells #[.int .i64 ub, .int .i64 vb] 3); obtain ⟨s0, s1, s2, s3⟩ := two_cells w2 (ua) (ua) (ub) (vb); have H2 := Lib.hid (fun q => T2.out.trans ((two_below w2 (.cells #[.int .i64 ua, .int .i64 ua] 3) (.cells #[.int .i64 ub, .int .i64 vb] 3) q).mono T2.out.size)); clear hb)))
  go_quiet (fail)
  go_wp2
  go_ret
  exact ⟨rfl, H2.out _⟩
set_option maxHeartbeats 16000000 in
set_option maxRecDepth 100000 in
theorem apart_SL_near (A : Option Addr) (c n : Nat) (g : List Arc) (ua va xa kb ub vb xb : Int) (w : World) (hn : n = g.length) (hl : Arcs w A g) (h40 : n ≤ 40) (hr : rightB g = true) (hb1 : kb < 14) :
    Calls Try.prog 5 #[.slice A n c, .agg #[.int .i64 17, .int .i64 ua, .int .i64 va, .int .u64 xa], .agg #[.int .i64 kb, .int .i64 ub, .int .i64 vb, .int .u64 xb]] w fun e w' => e = .returned (.bool true) ∧ Below w.heap.size w w' := by
  have T0 := Lib.hid (((Below.refl w.heap.size w).alloc (Nat.le_refl _) (.cells #[.int .i64 17, .int .i64 ua, .int .i64 va, .int .u64 xa] 25)).alloc (by rw [World.size_alloc]; omega) (.cells #[.int .i64 kb, .int .i64 ub, .int .i64 vb, .int .u64 xb] 25))
  have D1 := Lib.hid (shown_any ((w.alloc (.cells #[.int .i64 17, .int .i64 ua, .int .i64 va, .int .u64 xa] 25)).alloc (.cells #[.int .i64 kb, .int .i64 ub, .int .i64 vb, .int .u64 xb] 25)))
  have G0 := Lib.hid (hl.below T0.out (Nat.le_refl _))
  have O0 := Lib.hid ((opc_new w (17) ua va xa).below ((Below.refl _ _).alloc (Nat.le_refl _) (.cells #[.int .i64 kb, .int .i64 ub, .int .i64 vb, .int .u64 xb] 25)) (Nat.le_refl _))
  have P0 := Lib.hid (opc_two w (17) ua va xa (kb) ub vb xb)
  have HN := Lib.hid hn
  have H40 := Lib.hid (show g.length ≤ 999 from by omega)
  have HR := Lib.hid hr
  clear hl hr hn
  have d1 : decide ((40 : Int) < (n : Int)) = false := by simp; omega
  have d2 : decide (40 < n) = false := by simp; omega
  have eb1 : decide ((14 : Int) ≤ kb) = false := by simp; omega
  have eb3 : (kb == 17) = false := by simp; omega
  go_enter Try.func5, Try.ntmps5
  go_wp2_with (first
    | (go_at_call 8; ((with_reducible refine D1.out.mono ?_); rintro e w1 ⟨rfl, hb⟩; have G1 := Lib.hid (G0.out.below hb (Nat.le_refl _)); have O1 := Lib.hid (O0.out.below hb (Nat.le_refl _)); have P1 := Lib.hid (P0.out.below hb (Nat.le_refl _)); have T1 := Lib.hid (T0.out.trans (hb.mono T0.out.size)); have D2 := Lib.hid (right_eq c HN.out G1.out H40.out HR.out); clear hb))
    | (go_at_call 9; ((with_reducible refine D2.out.mono ?_); rintro e w2 ⟨rfl, hb⟩; have G2 := Lib.hid (G1.out.below hb (Nat.le_refl _)); have O2 := Lib.hid (O1.out.below hb (Nat.le_refl _)); have P2 := Lib.hid (P1.out.below hb (Nat.le_refl _)); have T2 := Lib.hid (T1.out.trans (hb.mono T1.out.size)); obtain ⟨_, q1, _, _⟩ := O2.out; obtain ⟨_, r1, _, _⟩ := P2.out.alloc1 (.cells #[.int .i64 ua, .int .i64 ua] 3); obtain ⟨q4, _, q5, _⟩ := (O2.out.alloc1 (.cells #[.int .i64 ua, .int .i64 ua] 3)).alloc1 (.cells #[.int .i64 ub, .int .i64 ub] 3); obtain ⟨r4, _, r5, _⟩ := (P2.out.alloc1 (.cells #[.int .i64 ua, .int .i64 ua] 3)).alloc1 (.cells #[.int .i64 ub, .int .i64 ub] 3); obtain ⟨q6, _, _, _⟩ := (O2.out.alloc1 (.cells #[.int .i64 ua, .int .i64 ua] 3)).alloc1 (.cells #[.int .i64 ub, .int .i64 ub] 3); obtain ⟨r6, _, _, _⟩ := (P2.out.alloc1 (.cells #[.int .i64 ua, .int .i64 ua] 3)).alloc1 (.cells #[.int .i64 ub, .int .i64 ub] 3); obtain ⟨s0, s1, s2, s3⟩ := two_cells w2 (ua) (ua) (ub) (ub); have H2 := Lib.hid (fun q => T2.out.trans ((two_below w2 (.cells #[.int .i64 ua, .int .i64 ua] 3) (.cells #[.int .i64 ub, .int .i64 ub] 3) q).mono T2.out.size)); clear hb)))
  go_quiet (fail)
  go_wp2
  go_ret
  exact ⟨rfl, H2.out _⟩
set_option maxHeartbeats 16000000 in
set_option maxRecDepth 100000 in
theorem apart_SH_near (A : Option Addr) (c n : Nat) (g : List Arc) (ua va xa kb ub vb xb : Int) (w : World) (hn : n = g.length) (hl : Arcs w A g) (h40 : n ≤ 40) (hr : rightB g = true) (hb1 : 17 < kb) :
    Calls Try.prog 5 #[.slice A n c, .agg #[.int .i64 17, .int .i64 ua, .int .i64 va, .int .u64 xa], .agg #[.int .i64 kb, .int .i64 ub, .int .i64 vb, .int .u64 xb]] w fun e w' => e = .returned (.bool true) ∧ Below w.heap.size w w' := by
  have T0 := Lib.hid (((Below.refl w.heap.size w).alloc (Nat.le_refl _) (.cells #[.int .i64 17, .int .i64 ua, .int .i64 va, .int .u64 xa] 25)).alloc (by rw [World.size_alloc]; omega) (.cells #[.int .i64 kb, .int .i64 ub, .int .i64 vb, .int .u64 xb] 25))
  have D1 := Lib.hid (shown_any ((w.alloc (.cells #[.int .i64 17, .int .i64 ua, .int .i64 va, .int .u64 xa] 25)).alloc (.cells #[.int .i64 kb, .int .i64 ub, .int .i64 vb, .int .u64 xb] 25)))
  have G0 := Lib.hid (hl.below T0.out (Nat.le_refl _))
  have O0 := Lib.hid ((opc_new w (17) ua va xa).below ((Below.refl _ _).alloc (Nat.le_refl _) (.cells #[.int .i64 kb, .int .i64 ub, .int .i64 vb, .int .u64 xb] 25)) (Nat.le_refl _))
  have P0 := Lib.hid (opc_two w (17) ua va xa (kb) ub vb xb)
  have HN := Lib.hid hn
  have H40 := Lib.hid (show g.length ≤ 999 from by omega)
  have HR := Lib.hid hr
  clear hl hr hn
  have d1 : decide ((40 : Int) < (n : Int)) = false := by simp; omega
  have d2 : decide (40 < n) = false := by simp; omega
  have eb1 : decide ((14 : Int) ≤ kb) = true := by simp; omega
  have eb2 : decide (kb ≤ (16 : Int)) = false := by simp; omega
  have eb3 : (kb == 17) = false := by simp; omega
  go_enter Try.func5, Try.ntmps5
  go_wp2_with (first
    | (go_at_call 8; ((with_reducible refine D1.out.mono ?_); rintro e w1 ⟨rfl, hb⟩; have G1 := Lib.hid (G0.out.below hb (Nat.le_refl _)); have O1 := Lib.hid (O0.out.below hb (Nat.le_refl _)); have P1 := Lib.hid (P0.out.below hb (Nat.le_refl _)); have T1 := Lib.hid (T0.out.trans (hb.mono T0.out.size)); have D2 := Lib.hid (right_eq c HN.out G1.out H40.out HR.out); clear hb))
    | (go_at_call 9; ((with_reducible refine D2.out.mono ?_); rintro e w2 ⟨rfl, hb⟩; have G2 := Lib.hid (G1.out.below hb (Nat.le_refl _)); have O2 := Lib.hid (O1.out.below hb (Nat.le_refl _)); have P2 := Lib.hid (P1.out.below hb (Nat.le_refl _)); have T2 := Lib.hid (T1.out.trans (hb.mono T1.out.size)); obtain ⟨_, q1, _, _⟩ := O2.out; obtain ⟨_, r1, _, _⟩ := P2.out.alloc1 (.cells #[.int .i64 ua, .int .i64 ua] 3); obtain ⟨q4, _, q5, _⟩ := (O2.out.alloc1 (.cells #[.int .i64 ua, .int .i64 ua] 3)).alloc1 (.cells #[.int .i64 ub, .int .i64 ub] 3); obtain ⟨r4, _, r5, _⟩ := (P2.out.alloc1 (.cells #[.int .i64 ua, .int .i64 ua] 3)).alloc1 (.cells #[.int .i64 ub, .int .i64 ub] 3); obtain ⟨q6, _, _, _⟩ := (O2.out.alloc1 (.cells #[.int .i64 ua, .int .i64 ua] 3)).alloc1 (.cells #[.int .i64 ub, .int .i64 ub] 3); obtain ⟨r6, _, _, _⟩ := (P2.out.alloc1 (.cells #[.int .i64 ua, .int .i64 ua] 3)).alloc1 (.cells #[.int .i64 ub, .int .i64 ub] 3); obtain ⟨s0, s1, s2, s3⟩ := two_cells w2 (ua) (ua) (ub) (ub); have H2 := Lib.hid (fun q => T2.out.trans ((two_below w2 (.cells #[.int .i64 ua, .int .i64 ua] 3) (.cells #[.int .i64 ub, .int .i64 ub] 3) q).mono T2.out.size)); clear hb)))
  go_quiet (fail)
  go_wp2
  go_ret
  exact ⟨rfl, H2.out _⟩
set_option maxHeartbeats 16000000 in
set_option maxRecDepth 100000 in
theorem apart_SS_near (A : Option Addr) (c n : Nat) (g : List Arc) (ua va xa ub vb xb : Int) (w : World) (hn : n = g.length) (hl : Arcs w A g) (h40 : n ≤ 40) (hr : rightB g = true)  :
    Calls Try.prog 5 #[.slice A n c, .agg #[.int .i64 17, .int .i64 ua, .int .i64 va, .int .u64 xa], .agg #[.int .i64 17, .int .i64 ub, .int .i64 vb, .int .u64 xb]] w fun e w' => e = .returned (.bool true) ∧ Below w.heap.size w w' := by
  have T0 := Lib.hid (((Below.refl w.heap.size w).alloc (Nat.le_refl _) (.cells #[.int .i64 17, .int .i64 ua, .int .i64 va, .int .u64 xa] 25)).alloc (by rw [World.size_alloc]; omega) (.cells #[.int .i64 17, .int .i64 ub, .int .i64 vb, .int .u64 xb] 25))
  have D1 := Lib.hid (shown_any ((w.alloc (.cells #[.int .i64 17, .int .i64 ua, .int .i64 va, .int .u64 xa] 25)).alloc (.cells #[.int .i64 17, .int .i64 ub, .int .i64 vb, .int .u64 xb] 25)))
  have G0 := Lib.hid (hl.below T0.out (Nat.le_refl _))
  have O0 := Lib.hid ((opc_new w (17) ua va xa).below ((Below.refl _ _).alloc (Nat.le_refl _) (.cells #[.int .i64 17, .int .i64 ub, .int .i64 vb, .int .u64 xb] 25)) (Nat.le_refl _))
  have P0 := Lib.hid (opc_two w (17) ua va xa (17) ub vb xb)
  have HN := Lib.hid hn
  have H40 := Lib.hid (show g.length ≤ 999 from by omega)
  have HR := Lib.hid hr
  clear hl hr hn
  have d1 : decide ((40 : Int) < (n : Int)) = false := by simp; omega
  have d2 : decide (40 < n) = false := by simp; omega
  go_enter Try.func5, Try.ntmps5
  go_wp2_with (first
    | (go_at_call 8; ((with_reducible refine D1.out.mono ?_); rintro e w1 ⟨rfl, hb⟩; have G1 := Lib.hid (G0.out.below hb (Nat.le_refl _)); have O1 := Lib.hid (O0.out.below hb (Nat.le_refl _)); have P1 := Lib.hid (P0.out.below hb (Nat.le_refl _)); have T1 := Lib.hid (T0.out.trans (hb.mono T0.out.size)); have D2 := Lib.hid (right_eq c HN.out G1.out H40.out HR.out); clear hb))
    | (go_at_call 9; ((with_reducible refine D2.out.mono ?_); rintro e w2 ⟨rfl, hb⟩; have G2 := Lib.hid (G1.out.below hb (Nat.le_refl _)); have O2 := Lib.hid (O1.out.below hb (Nat.le_refl _)); have P2 := Lib.hid (P1.out.below hb (Nat.le_refl _)); have T2 := Lib.hid (T1.out.trans (hb.mono T1.out.size)); obtain ⟨_, q1, _, _⟩ := O2.out; obtain ⟨_, r1, _, _⟩ := P2.out.alloc1 (.cells #[.int .i64 ua, .int .i64 ua] 3); obtain ⟨q4, _, q5, _⟩ := (O2.out.alloc1 (.cells #[.int .i64 ua, .int .i64 ua] 3)).alloc1 (.cells #[.int .i64 ub, .int .i64 ub] 3); obtain ⟨r4, _, r5, _⟩ := (P2.out.alloc1 (.cells #[.int .i64 ua, .int .i64 ua] 3)).alloc1 (.cells #[.int .i64 ub, .int .i64 ub] 3); obtain ⟨q6, _, _, _⟩ := (O2.out.alloc1 (.cells #[.int .i64 ua, .int .i64 ua] 3)).alloc1 (.cells #[.int .i64 ub, .int .i64 ub] 3); obtain ⟨r6, _, _, _⟩ := (P2.out.alloc1 (.cells #[.int .i64 ua, .int .i64 ua] 3)).alloc1 (.cells #[.int .i64 ub, .int .i64 ub] 3); obtain ⟨s0, s1, s2, s3⟩ := two_cells w2 (ua) (ua) (ub) (ub); have H2 := Lib.hid (fun q => T2.out.trans ((two_below w2 (.cells #[.int .i64 ua, .int .i64 ua] 3) (.cells #[.int .i64 ub, .int .i64 ub] 3) q).mono T2.out.size)); clear hb)))
  go_quiet (fail)
  go_wp2
  go_ret
  exact ⟨rfl, H2.out _⟩
end Go.Proofs.Ytmlcghbhkpbaeaa
