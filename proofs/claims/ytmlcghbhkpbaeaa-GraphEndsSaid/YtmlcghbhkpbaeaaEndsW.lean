/- GraphEnds: the walk. -/
import Derived.Test.YtmlcghbhkpbaeaaStaysP
namespace Go.Proofs.Ytmlcghbhkpbaeaa
open Go.RowKit Aid

set_option maxRecDepth 100000 in
theorem ends_long (A : Option Addr) (c n : Nat) (u v x : Int) (w : World) (h : 40 < n) : Calls Try.prog 4 #[.agg #[.slice A n c, .int .i64 u, .int .i64 v, .int .u64 x]] w fun e w' => e = .returned (.bool true) ∧ Below w.heap.size w w' := by
  have T0 := Lib.hid ((Below.refl w.heap.size w).alloc (Nat.le_refl _) (.cells #[.slice A n c, .int .i64 u, .int .i64 v, .int .u64 x] 38))
  have D1 := Lib.hid (shown_any (w.alloc (.cells #[.slice A n c, .int .i64 u, .int .i64 v, .int .u64 x] 38)))
  have d1 : decide ((40 : Int) < (n : Int)) = true := by simp; omega
  have d2 : decide (40 < n) = true := by simp; omega
  go_enter Try.func4, Try.ntmps4
  go_wp2_with (first
    | (go_at_call 8; ((with_reducible refine D1.out.mono ?_); rintro e w1 ⟨rfl, hb⟩; have H1 := Lib.hid (T0.out.trans (hb.mono T0.out.size)); clear hb)))
  go_ret
  exact ⟨rfl, H1.out⟩
set_option maxRecDepth 100000 in
theorem ends_wrong (A : Option Addr) (c n : Nat) (g : List Arc) (u v x : Int) (w : World) (hn : n = g.length) (hl : Arcs w A g) (h40 : n ≤ 40) (hr : rightB g = false) : Calls Try.prog 4 #[.agg #[.slice A n c, .int .i64 u, .int .i64 v, .int .u64 x]] w fun e w' => e = .returned (.bool true) ∧ Below w.heap.size w w' := by
  have T0 := Lib.hid ((Below.refl w.heap.size w).alloc (Nat.le_refl _) (.cells #[.slice A n c, .int .i64 u, .int .i64 v, .int .u64 x] 38))
  have D1 := Lib.hid (shown_any (w.alloc (.cells #[.slice A n c, .int .i64 u, .int .i64 v, .int .u64 x] 38)))
  have d1 : decide ((40 : Int) < (n : Int)) = false := by simp; omega
  have d2 : decide (40 < n) = false := by simp; omega
  have HR : Hid (∀ W, Below w.heap.size w W → Calls Try.prog 9 #[.slice A n c] W fun e w' => e = .returned (.bool false) ∧ Below W.heap.size W w') := Lib.hid (fun W hW => right_eq c hn (hl.below hW (Nat.le_refl _)) (by omega) hr)
  clear hl hr hn
  go_enter Try.func4, Try.ntmps4
  go_wp2_with (first
    | (go_at_call 8; ((with_reducible refine D1.out.mono ?_); rintro e w1 ⟨rfl, hb⟩; have H1 := Lib.hid (T0.out.trans (hb.mono T0.out.size)); have D2 := Lib.hid (HR.out _ H1.out); clear hb))
    | (go_at_call 9; ((with_reducible refine D2.out.mono ?_); rintro e w2 ⟨rfl, hb⟩; have H2 := Lib.hid (H1.out.trans (hb.mono H1.out.size)); clear hb)))
  go_ret
  exact ⟨rfl, H2.out⟩
set_option maxRecDepth 100000 in
theorem ends_nou (A : Option Addr) (c n : Nat) (g : List Arc) (u v x : Int) (w : World) (hn : n = g.length) (hl : Arcs w A g) (h40 : n ≤ 40) (hr : rightB g = true) (hu : isV u = false) : Calls Try.prog 4 #[.agg #[.slice A n c, .int .i64 u, .int .i64 v, .int .u64 x]] w fun e w' => e = .returned (.bool true) ∧ Below w.heap.size w w' := by
  have T0 := Lib.hid ((Below.refl w.heap.size w).alloc (Nat.le_refl _) (.cells #[.slice A n c, .int .i64 u, .int .i64 v, .int .u64 x] 38))
  have D1 := Lib.hid (shown_any (w.alloc (.cells #[.slice A n c, .int .i64 u, .int .i64 v, .int .u64 x] 38)))
  have d1 : decide ((40 : Int) < (n : Int)) = false := by simp; omega
  have d2 : decide (40 < n) = false := by simp; omega
  have HR : Hid (∀ W, Below w.heap.size w W → Calls Try.prog 9 #[.slice A n c] W fun e w' => e = .returned (.bool true) ∧ Below W.heap.size W w') := Lib.hid (fun W hW => right_eq c hn (hl.below hW (Nat.le_refl _)) (by omega) hr)
  have HU : Hid (∀ W, Calls Try.prog 13 #[.int .i64 u] W fun e w' => e = .returned (.bool false) ∧ W = w') := Lib.hid (fun W => by have := is_any u W; rw [hu] at this; exact this)
  clear hl hr hn hu
  go_enter Try.func4, Try.ntmps4
  go_wp2_with (first
    | (go_at_call 8; ((with_reducible refine D1.out.mono ?_); rintro e w1 ⟨rfl, hb⟩; have H1 := Lib.hid (T0.out.trans (hb.mono T0.out.size)); have D2 := Lib.hid (HR.out _ H1.out); clear hb))
    | (go_at_call 9; ((with_reducible refine D2.out.mono ?_); rintro e w2 ⟨rfl, hb⟩; have H2 := Lib.hid (H1.out.trans (hb.mono H1.out.size)); clear hb))
    | (go_at_call 13; ((with_reducible refine (HU.out _).mono ?_); rintro e w' ⟨rfl, rfl⟩)))
  go_ret
  exact ⟨rfl, H2.out⟩
set_option maxRecDepth 100000 in
theorem ends_nov (A : Option Addr) (c n : Nat) (g : List Arc) (u v x : Int) (w : World) (hn : n = g.length) (hl : Arcs w A g) (h40 : n ≤ 40) (hr : rightB g = true) (hu : isV u = true) (hv : isV v = false) : Calls Try.prog 4 #[.agg #[.slice A n c, .int .i64 u, .int .i64 v, .int .u64 x]] w fun e w' => e = .returned (.bool true) ∧ Below w.heap.size w w' := by
  have T0 := Lib.hid ((Below.refl w.heap.size w).alloc (Nat.le_refl _) (.cells #[.slice A n c, .int .i64 u, .int .i64 v, .int .u64 x] 38))
  have D1 := Lib.hid (shown_any (w.alloc (.cells #[.slice A n c, .int .i64 u, .int .i64 v, .int .u64 x] 38)))
  have d1 : decide ((40 : Int) < (n : Int)) = false := by simp; omega
  have d2 : decide (40 < n) = false := by simp; omega
  have HR : Hid (∀ W, Below w.heap.size w W → Calls Try.prog 9 #[.slice A n c] W fun e w' => e = .returned (.bool true) ∧ Below W.heap.size W w') := Lib.hid (fun W hW => right_eq c hn (hl.below hW (Nat.le_refl _)) (by omega) hr)
  have HU : Hid (∀ W, Calls Try.prog 13 #[.int .i64 u] W fun e w' => e = .returned (.bool true) ∧ W = w') := Lib.hid (fun W => by have := is_any u W; rw [hu] at this; exact this)
  have HV : Hid (∀ W, Calls Try.prog 13 #[.int .i64 v] W fun e w' => e = .returned (.bool false) ∧ W = w') := Lib.hid (fun W => by have := is_any v W; rw [hv] at this; exact this)
  clear hl hr hn hu hv
  go_enter Try.func4, Try.ntmps4
  go_wp2_with (first
    | (go_at_call 8; ((with_reducible refine D1.out.mono ?_); rintro e w1 ⟨rfl, hb⟩; have H1 := Lib.hid (T0.out.trans (hb.mono T0.out.size)); have D2 := Lib.hid (HR.out _ H1.out); clear hb))
    | (go_at_call 9; ((with_reducible refine D2.out.mono ?_); rintro e w2 ⟨rfl, hb⟩; have H2 := Lib.hid (H1.out.trans (hb.mono H1.out.size)); clear hb))
    | (go_at_call 13; ((with_reducible refine (HU.out _).mono ?_); rintro e w' ⟨rfl, rfl⟩))
    | (go_at_call 13; ((with_reducible refine (HV.out _).mono ?_); rintro e w' ⟨rfl, rfl⟩)))
  go_ret
  exact ⟨rfl, H2.out⟩
theorem keep3 {b o : Nat} {c1 c2 c3 : Value} {W0 w' w'' : World}
    (h : w'.cell? ⟨b, o, none⟩ = some c1 ∧ w'.cell? ⟨b, o + 1, none⟩ = some c2 ∧ w'.cell? ⟨b, o + 2, none⟩ = some c3 ∧ Below W0.heap.size W0 w') (hb : Below w'.heap.size w' w'') :
    w''.cell? ⟨b, o, none⟩ = some c1 ∧ w''.cell? ⟨b, o + 1, none⟩ = some c2 ∧ w''.cell? ⟨b, o + 2, none⟩ = some c3 ∧ Below W0.heap.size W0 w'' := by
  obtain ⟨h1, h2, h3, h7⟩ := h
  have l1 := World.block_lt_of_cell? _ _ h1
  exact ⟨(hb.cell (p := ⟨b, o, none⟩) l1).trans h1, (hb.cell (p := ⟨b, o + 1, none⟩) l1).trans h2, (hb.cell (p := ⟨b, o + 2, none⟩) l1).trans h3, h7.trans (hb.mono h7.size)⟩
set_option maxHeartbeats 16000000 in
set_option maxRecDepth 100000 in
theorem ends_full_bw (A : Option Addr) (c n nx nz : Nat) (g lx ly lz : List Arc) (aX aY : Ans) (u v x y : Int) (w : World) (hn : n = g.length) (hl : Arcs w A g) (h40 : n ≤ 40) (hnx : nx = (kept g (ends ⟨0, u, 0, 0⟩)).length) (hx40 : nx ≤ 41)
    (hr : rightB g = true) (hu : isV u = true) (hv : isV v = true)
    (F1 : Hid (∀ W B, Arcs W B g → Calls Try.prog 10 #[.slice B n c, .agg #[.int .i64 12, .int .i64 u, .int .i64 0, .int .u64 0]] W fun e w' => ∃ B d C f, e = .returned (.tuple #[.slice B nx d, .agg #[.int .i64 aX.err, .bool aX.is, .int .i64 aX.n, .int .u64 aX.w, .slice C aX.list.length f]]) ∧ Arcs w' B lx ∧ Sl w' C (aX.list.map (Value.int .i64)) ∧ Below W.heap.size W w'))
    (F2 : Hid (∀ W B d, Arcs W B lx → Calls Try.prog 10 #[.slice B nx d, .agg #[.int .i64 11, .int .i64 u, .int .i64 0, .int .u64 0]] W fun e w' => ∃ B d C f, e = .returned (.tuple #[.slice B (nx + 1 : Nat) d, .agg #[.int .i64 aY.err, .bool aY.is, .int .i64 aY.n, .int .u64 aY.w, .slice C aY.list.length f]]) ∧ Arcs w' B ly ∧ Sl w' C (aY.list.map (Value.int .i64)) ∧ Below W.heap.size W w'))
    (F3 : Hid (∀ W B d, Arcs W B ly → Calls Try.prog 10 #[.slice B (nx + 1 : Nat) d, .agg #[.int .i64 17, .int .i64 u, .int .i64 0, .int .u64 0]] W fun e w' => ∃ B d C f, e = .returned (.tuple #[.slice B (nx + 1 : Nat) d, .agg #[.int .i64 0, .bool true, .int .i64 0, .int .u64 0, .slice C 0 f]]) ∧ Arcs w' B ly ∧ Sl w' C (([] : List Int).map (Value.int .i64)) ∧ Below W.heap.size W w'))
    (HH : Hid (∀ W B d, Arcs W B lx → ∀ a ∈ g, ∃ t, (ends ⟨0, u, 0, 0⟩ a = false → t = a.w) ∧ Calls Try.prog 14 #[.slice B nx d, .int .i64 a.u, .int .i64 a.v] W fun e w' => e = .returned (.tuple #[.int .u64 t, .bool (!ends ⟨0, u, 0, 0⟩ a)]) ∧ Below W.heap.size W w') )
    (HO : Hid (∀ W B, Arcs W B g → Calls Try.prog 14 #[.slice B n c, .int .i64 u, .int .i64 v] W fun e w' => e = .returned (.tuple #[.int .u64 y, .bool true]) ∧ Below W.heap.size W w'))
    (F4 : Hid (∀ W B, Arcs W B g → Calls Try.prog 10 #[.slice B n c, .agg #[.int .i64 14, .int .i64 u, .int .i64 v, .int .u64 x]] W fun e w' => ∃ B d C f, e = .returned (.tuple #[.slice B nz d, .agg #[.int .i64 0, .bool false, .int .i64 0, .int .u64 0, .slice C 0 f]]) ∧ Arcs w' B lz ∧ Sl w' C (([] : List Int).map (Value.int .i64)) ∧ Below W.heap.size W w'))
    (HZ : Hid (∀ W B d, Arcs W B lz → Calls Try.prog 14 #[.slice B nz d, .int .i64 u, .int .i64 v] W fun e w' => e = .returned (.tuple #[.int .u64 y, .bool true]) ∧ Below W.heap.size W w')) :
    Calls Try.prog 4 #[.agg #[.slice A n c, .int .i64 u, .int .i64 v, .int .u64 x]] w fun e w' => e = .returned (.bool true) ∧ Below w.heap.size w w' := by
  have T0 := Lib.hid ((Below.refl w.heap.size w).alloc (Nat.le_refl _) (.cells #[.slice A n c, .int .i64 u, .int .i64 v, .int .u64 x] 38))
  have G0 := Lib.hid (hl.below T0.out (Nat.le_refl _))
  have D1 := Lib.hid (shown_any (w.alloc (.cells #[.slice A n c, .int .i64 u, .int .i64 v, .int .u64 x] 38)))
  have d1 : decide ((40 : Int) < (n : Int)) = false := by simp; omega
  have d2 : decide (40 < n) = false := by simp; omega
  have HN := Lib.hid hn
  have H40 := Lib.hid (show g.length ≤ 999 from by omega)
  have HR := Lib.hid hr
  have HU : Hid (∀ W, Calls Try.prog 13 #[.int .i64 u] W fun e w' => e = .returned (.bool true) ∧ W = w') := Lib.hid (fun W => by have := is_any u W; rw [hu] at this; exact this)
  have HV : Hid (∀ W, Calls Try.prog 13 #[.int .i64 v] W fun e w' => e = .returned (.bool true) ∧ W = w') := Lib.hid (fun W => by have := is_any v W; rw [hv] at this; exact this)
  have NX := Lib.hid hnx
  clear hl hr hn hu hv hnx
  go_enter Try.func4, Try.ntmps4
  go_wp2_with (first
    | (go_at_call 8; ((with_reducible refine D1.out.mono ?_); rintro e w1 ⟨rfl, hb⟩; have G1 := Lib.hid (G0.out.below hb (Nat.le_refl _)); have T1 := Lib.hid (T0.out.trans (hb.mono T0.out.size)); have D2 := Lib.hid (right_eq c HN.out G1.out H40.out HR.out); clear hb))
    | (go_at_call 9; ((with_reducible refine D2.out.mono ?_); rintro e w2 ⟨rfl, hb⟩; have G2 := Lib.hid (G1.out.below hb (Nat.le_refl _)); have T2 := Lib.hid (T1.out.trans (hb.mono T1.out.size)); have D3 := Lib.hid (F1.out _ _ G2.out); clear hb))
    | (go_at_call 13; ((with_reducible refine (HU.out _).mono ?_); rintro e w' ⟨rfl, rfl⟩))
    | (go_at_call 13; ((with_reducible refine (HV.out _).mono ?_); rintro e w' ⟨rfl, rfl⟩))
    | (go_at_call 10; ((with_reducible refine D3.out.mono ?_); rintro e w3 ⟨B3, d3, C3, f3, rfl, hr, hs, hb⟩; have Y := Lib.hid (show Below w2.heap.size w2 (w3.alloc (.cells #[.int .i64 aX.err, .bool aX.is, .int .i64 aX.n, .int .u64 aX.w, .slice C3 aX.list.length f3] 31)) from hb.alloc hb.size _); have G3 := Lib.hid (G2.out.below Y.out (Nat.le_refl _)); have T3 := Lib.hid (T2.out.trans (Y.out.mono T2.out.size)); have X3 := Lib.hid (hr.below ((Below.refl w3.heap.size w3).alloc (Nat.le_refl _) (.cells #[.int .i64 aX.err, .bool aX.is, .int .i64 aX.n, .int .u64 aX.w, .slice C3 aX.list.length f3] 31)) (Nat.le_refl _)); have D4 := Lib.hid (F2.out (w3.alloc (.cells #[.int .i64 aX.err, .bool aX.is, .int .i64 aX.n, .int .u64 aX.w, .slice C3 aX.list.length f3] 31)) _ d3 X3.out); clear Y hb hr hs))
    | (go_at_call 10; ((with_reducible refine D4.out.mono ?_); rintro e w4 ⟨B4, d4, C4, f4, rfl, hr, hs, hb⟩; have Y := Lib.hid (show Below (w3.alloc (.cells #[.int .i64 aX.err, .bool aX.is, .int .i64 aX.n, .int .u64 aX.w, .slice C3 aX.list.length f3] 31)).heap.size (w3.alloc (.cells #[.int .i64 aX.err, .bool aX.is, .int .i64 aX.n, .int .u64 aX.w, .slice C3 aX.list.length f3] 31)) (w4.alloc (.cells #[.int .i64 aY.err, .bool aY.is, .int .i64 aY.n, .int .u64 aY.w, .slice C4 aY.list.length f4] 31)) from hb.alloc hb.size _); have G4 := Lib.hid (G3.out.below Y.out (Nat.le_refl _)); have T4 := Lib.hid (T3.out.trans (Y.out.mono T3.out.size)); have X4 := Lib.hid (X3.out.below Y.out (Nat.le_refl _)); have Y04 := Lib.hid (hr.below ((Below.refl w4.heap.size w4).alloc (Nat.le_refl _) (.cells #[.int .i64 aY.err, .bool aY.is, .int .i64 aY.n, .int .u64 aY.w, .slice C4 aY.list.length f4] 31)) (Nat.le_refl _)); have D5 := Lib.hid (F3.out (w4.alloc (.cells #[.int .i64 aY.err, .bool aY.is, .int .i64 aY.n, .int .u64 aY.w, .slice C4 aY.list.length f4] 31)) _ d4 Y04.out); clear Y hb hr hs))
    | (go_at_call 10; ((with_reducible refine D5.out.mono ?_); rintro e w5 ⟨B5, d5, C5, f5, rfl, hr, hs, hb⟩; have Y := Lib.hid (show Below (w4.alloc (.cells #[.int .i64 aY.err, .bool aY.is, .int .i64 aY.n, .int .u64 aY.w, .slice C4 aY.list.length f4] 31)).heap.size (w4.alloc (.cells #[.int .i64 aY.err, .bool aY.is, .int .i64 aY.n, .int .u64 aY.w, .slice C4 aY.list.length f4] 31)) (w5.alloc (.cells #[.int .i64 0, .bool true, .int .i64 0, .int .u64 0, .slice C5 0 f5] 31)) from hb.alloc hb.size _); have G5 := Lib.hid (G4.out.below Y.out (Nat.le_refl _)); have T5 := Lib.hid (T4.out.trans (Y.out.mono T4.out.size)); have X5 := Lib.hid (X4.out.below Y.out (Nat.le_refl _)); have Y05 := Lib.hid (Y04.out.below Y.out (Nat.le_refl _)); have KB5 := Lib.hid (show Cell (w5.alloc (.cells #[.int .i64 0, .bool true, .int .i64 0, .int .u64 0, .slice C5 0 f5] 31)) w5.heap.size 1 (.bool true) from Cell.new rfl); have KE5 := Lib.hid (show Cell (w5.alloc (.cells #[.int .i64 0, .bool true, .int .i64 0, .int .u64 0, .slice C5 0 f5] 31)) w5.heap.size 4 (.slice C5 0 f5) from Cell.new rfl); clear Y hb hr hs)))
  go_loopw [14, 15] (fun p j wr => ∃ i : Nat, i ≤ n ∧ p = .int .i64 ((kept (g.take i) (ends ⟨0, u, 0, 0⟩)).length : Nat) ∧ j = .int .i64 i ∧ Below (w5.alloc (.cells #[.int .i64 0, .bool true, .int .i64 0, .int .u64 0, .slice C5 0 f5] 31)).heap.size (w5.alloc (.cells #[.int .i64 0, .bool true, .int .i64 0, .int .u64 0, .slice C5 0 f5] 31)) wr) (fun _ j _ => n - (intOf j).toNat)
  case atStart => exact ⟨0, Nat.zero_le _, rfl, rfl, Below.refl _ _⟩
  case round =>
    obtain ⟨i, hi, rfl, rfl, hb⟩ := hrel
    have HB := Lib.hid hb
    have P0 := Lib.hid (G5.out.below hb (Nat.le_refl _))
    have X6 := Lib.hid (X5.out.below hb (Nat.le_refl _))
    have Q0 := Lib.hid (T5.out.trans (hb.mono T5.out.size))
    have KB6 := Lib.hid (KB5.out.later hb)
    have KE6 := Lib.hid (KE5.out.later hb)
    clear hb
    have p1 : (kept (g.take i) (ends ⟨0, u, 0, 0⟩)).length ≤ 40 := Nat.le_trans (kept_le _ _) (by rw [List.length_take]; omega)
    by_cases hlt : i < n
    · have hlt' : i < g.length := by rw [← HN.out]; exact hlt
      obtain ⟨b, off, hA, hcs⟩ := P0.out.2.2 (by omega)
      subst hA
      obtain ⟨c1, c2, c3⟩ := hcs i g[i] (List.getElem?_eq_getElem hlt')
      clear hcs
      obtain ⟨t, ht, hcall⟩ := HH.out wr.drew _ d3 (X6.out.below (Below.refl _ _).drew (Nat.le_refl _)) g[i] (List.getElem_mem hlt')
      have NT := Lib.hid (show (kept (g.take (i + 1)) (ends ⟨0, u, 0, 0⟩)).length = (kept (g.take i) (ends ⟨0, u, 0, 0⟩)).length + (if ends ⟨0, u, 0, 0⟩ g[i] then 0 else 1) from by rw [kept_next hlt', List.length_append]; split <;> rfl)
      obtain ⟨⟨au, av, aw⟩, hgi⟩ : ∃ r, g[i] = r := ⟨_, rfl⟩
      rw [hgi] at c1 c2 c3 ht hcall NT
      simp only at c1 c2 c3 hcall ht
      have i0 : (0 : Int) ≤ (i : Int) := by omega
      have i1 : (i : Int) < (n : Int) := by omega
      clear hgi hlt'
      generalize (kept (g.take i) (ends ⟨0, u, 0, 0⟩)).length = p at p1 NT ⊢
      have n1 : IntKind.i64.wrap ((p : Int) + 1) = (p : Int) + 1 := by rw [IntKind.wrap_i64] <;> omega
      have n3 : IntKind.i64.wrap ((i : Int) + 1) = (i : Int) + 1 := by rw [IntKind.wrap_i64] <;> omega
      have HK := Lib.hid (show wr.drew.cell? ⟨b, off + i * 3, none⟩ = some (.int .i64 au) ∧ wr.drew.cell? ⟨b, off + i * 3 + 1, none⟩ = some (.int .i64 av) ∧ wr.drew.cell? ⟨b, off + i * 3 + 2, none⟩ = some (.int .u64 aw) ∧ Below wr.heap.size wr wr.drew from ⟨c1, c2, c3, (Below.refl _ _).drew⟩)
      by_cases hu : au = u
      · have hu2 := hu.symm
        clear hu
        subst hu2
        have he : ends ⟨0, u, 0, 0⟩ ⟨u, av, aw⟩ = true := decide_eq_true (.inl rfl)
        rw [he] at hcall ht NT
        clear ht he
        have HC := Lib.hid hcall
        clear hcall
        go_wp2
        go_region_held3 (fun w' => w'.cell? ⟨b, off + i * 3, none⟩ = some (.int .i64 u) ∧ w'.cell? ⟨b, off + i * 3 + 1, none⟩ = some (.int .i64 av) ∧ w'.cell? ⟨b, off + i * 3 + 2, none⟩ = some (.int .u64 aw) ∧ Below wr.heap.size wr w') (first | exact HK.out | assumption | exact keep3 (by assumption) (by assumption))
          (first | (go_at_call 14; refine HC.out.mono ?_; rintro e w' ⟨rfl, hb⟩))
        have HX := Lib.hid (HB.out.trans (((Below.refl _ _).drew.trans hb).mono HB.out.size))
        clear hb c1 c2 c3
        go_wp2
        go_roundw
        case rel => exact ⟨i + 1, by omega, by rw [NT.out]; rfl, by go_num, HX.out⟩
        case measure => simp [intOf]; omega
      · have g0 : (au == u) = false := by simpa using hu
        have g2 : (au != u) = true := by simpa using hu
        by_cases hw : av = u
        · have hw2 := hw.symm
          clear hw
          subst hw2
          have he : ends ⟨0, u, 0, 0⟩ ⟨au, u, aw⟩ = true := decide_eq_true (.inr rfl)
          rw [he] at hcall ht NT
          clear ht he
          have HC := Lib.hid hcall
          clear hcall
          go_wp2
          go_region_held3 (fun w' => w'.cell? ⟨b, off + i * 3, none⟩ = some (.int .i64 au) ∧ w'.cell? ⟨b, off + i * 3 + 1, none⟩ = some (.int .i64 u) ∧ w'.cell? ⟨b, off + i * 3 + 2, none⟩ = some (.int .u64 aw) ∧ Below wr.heap.size wr w') (first | exact HK.out | assumption | exact keep3 (by assumption) (by assumption))
            (first | (go_at_call 14; refine HC.out.mono ?_; rintro e w' ⟨rfl, hb⟩))
          have HX := Lib.hid (HB.out.trans (((Below.refl _ _).drew.trans hb).mono HB.out.size))
          clear hb c1 c2 c3
          go_wp2
          go_roundw
          case rel => exact ⟨i + 1, by omega, by rw [NT.out]; rfl, by go_num, HX.out⟩
          case measure => simp [intOf]; omega
        · have g1 : (av == u) = false := by simpa using hw
          have g3 : (av != u) = true := by simpa using hw
          have he : ends ⟨0, u, 0, 0⟩ ⟨au, av, aw⟩ = false := decide_eq_false (fun z => by rcases z with z | z; exact hu z; exact hw z)
          rw [he] at hcall ht NT
          obtain rfl : t = aw := ht rfl
          clear ht he
          have HC := Lib.hid hcall
          clear hcall
          go_wp2
          go_region_held3 (fun w' => w'.cell? ⟨b, off + i * 3, none⟩ = some (.int .i64 au) ∧ w'.cell? ⟨b, off + i * 3 + 1, none⟩ = some (.int .i64 av) ∧ w'.cell? ⟨b, off + i * 3 + 2, none⟩ = some (.int .u64 t) ∧ Below wr.heap.size wr w') (first | exact HK.out | assumption | exact keep3 (by assumption) (by assumption))
            (first | (go_at_call 14; refine HC.out.mono ?_; rintro e w' ⟨rfl, hb⟩))
          have HX := Lib.hid (HB.out.trans (((Below.refl _ _).drew.trans hb).mono HB.out.size))
          have c3' := (hb.cell (p := ⟨b, off + i * 3 + 2, none⟩) (World.block_lt_of_cell? _ _ HK.out.2.2.1)).trans HK.out.2.2.1
          clear hb c1 c2 c3
          go_wp2
          refine ⟨⟨i + 1, by omega, by rw [NT.out]; rfl, by go_num, HX.out⟩, by simp [intOf]; omega⟩
    · obtain rfl : i = n := by omega
      rw [List.take_of_length_le (by rw [HN.out]; exact Nat.le_refl _), ← NX.out]
      clear NX p1
      have E1 := Lib.hid (HO.out _ _ P0.out)
      have kb := KB6.out.at
      have ke := KE6.out.at
      have n1 : IntKind.i64.wrap ((nx : Int) + 1) = (nx : Int) + 1 := by rw [IntKind.wrap_i64] <;> omega
      go_wp2_with (first
          | (go_at_call 14; ((with_reducible refine E1.out.mono ?_); rintro e w1 ⟨rfl, hb⟩; have P1 := Lib.hid (P0.out.below hb (Nat.le_refl _)); have Q1 := Lib.hid (Q0.out.trans (hb.mono Q0.out.size)); have E2 := Lib.hid (F4.out _ _ P1.out); clear hb kb ke))
          | (go_at_call 10; ((with_reducible refine E2.out.mono ?_); rintro e w2 ⟨B2, d2, C2, f2, rfl, hr, hs, hb⟩; have Y := Lib.hid (show Below w1.heap.size w1 (w2.alloc (.cells #[.int .i64 0, .bool false, .int .i64 0, .int .u64 0, .slice C2 0 f2] 31)) from hb.alloc hb.size _); have P2 := Lib.hid (P1.out.below Y.out (Nat.le_refl _)); have Q2 := Lib.hid (Q1.out.trans (Y.out.mono Q1.out.size)); have Z2 := Lib.hid (hr.below ((Below.refl w2.heap.size w2).alloc (Nat.le_refl _) (.cells #[.int .i64 0, .bool false, .int .i64 0, .int .u64 0, .slice C2 0 f2] 31)) (Nat.le_refl _)); have KR2 := Lib.hid (show Cell (w2.alloc (.cells #[.int .i64 0, .bool false, .int .i64 0, .int .u64 0, .slice C2 0 f2] 31)) w2.heap.size 0 (.int .i64 0) from Cell.new rfl); have E3 := Lib.hid (HZ.out _ _ d2 Z2.out); clear Y hb hr hs))
          | (go_at_call 14; ((with_reducible refine E3.out.mono ?_); rintro e w3 ⟨rfl, hb⟩; have P3 := Lib.hid (P2.out.below hb (Nat.le_refl _)); have Q3 := Lib.hid (Q2.out.trans (hb.mono Q2.out.size)); have Z3 := Lib.hid (Z2.out.below hb (Nat.le_refl _)); have KR3 := Lib.hid (KR2.out.later hb); have kr := KR3.out.at; clear hb)))
      go_ret
      exact ⟨rfl, Q3.out⟩
set_option maxHeartbeats 16000000 in
set_option maxRecDepth 100000 in
theorem ends_full_bn (A : Option Addr) (c n nx nz : Nat) (g lx ly lz : List Arc) (aX aY : Ans) (u v x : Int) (w : World) (hn : n = g.length) (hl : Arcs w A g) (h40 : n ≤ 40) (hnx : nx = (kept g (ends ⟨0, u, 0, 0⟩)).length) (hx40 : nx ≤ 41)
    (hr : rightB g = true) (hu : isV u = true) (hv : isV v = true)
    (F1 : Hid (∀ W B, Arcs W B g → Calls Try.prog 10 #[.slice B n c, .agg #[.int .i64 12, .int .i64 u, .int .i64 0, .int .u64 0]] W fun e w' => ∃ B d C f, e = .returned (.tuple #[.slice B nx d, .agg #[.int .i64 aX.err, .bool aX.is, .int .i64 aX.n, .int .u64 aX.w, .slice C aX.list.length f]]) ∧ Arcs w' B lx ∧ Sl w' C (aX.list.map (Value.int .i64)) ∧ Below W.heap.size W w'))
    (F2 : Hid (∀ W B d, Arcs W B lx → Calls Try.prog 10 #[.slice B nx d, .agg #[.int .i64 11, .int .i64 u, .int .i64 0, .int .u64 0]] W fun e w' => ∃ B d C f, e = .returned (.tuple #[.slice B (nx + 1 : Nat) d, .agg #[.int .i64 aY.err, .bool aY.is, .int .i64 aY.n, .int .u64 aY.w, .slice C aY.list.length f]]) ∧ Arcs w' B ly ∧ Sl w' C (aY.list.map (Value.int .i64)) ∧ Below W.heap.size W w'))
    (F3 : Hid (∀ W B d, Arcs W B ly → Calls Try.prog 10 #[.slice B (nx + 1 : Nat) d, .agg #[.int .i64 17, .int .i64 u, .int .i64 0, .int .u64 0]] W fun e w' => ∃ B d C f, e = .returned (.tuple #[.slice B (nx + 1 : Nat) d, .agg #[.int .i64 0, .bool true, .int .i64 0, .int .u64 0, .slice C 0 f]]) ∧ Arcs w' B ly ∧ Sl w' C (([] : List Int).map (Value.int .i64)) ∧ Below W.heap.size W w'))
    (HH : Hid (∀ W B d, Arcs W B lx → ∀ a ∈ g, ∃ t, (ends ⟨0, u, 0, 0⟩ a = false → t = a.w) ∧ Calls Try.prog 14 #[.slice B nx d, .int .i64 a.u, .int .i64 a.v] W fun e w' => e = .returned (.tuple #[.int .u64 t, .bool (!ends ⟨0, u, 0, 0⟩ a)]) ∧ Below W.heap.size W w') )
    (HO : Hid (∀ W B, Arcs W B g → Calls Try.prog 14 #[.slice B n c, .int .i64 u, .int .i64 v] W fun e w' => e = .returned (.tuple #[.int .u64 0, .bool false]) ∧ Below W.heap.size W w'))
    (F4 : Hid (∀ W B, Arcs W B g → Calls Try.prog 10 #[.slice B n c, .agg #[.int .i64 14, .int .i64 u, .int .i64 v, .int .u64 x]] W fun e w' => ∃ B d C f, e = .returned (.tuple #[.slice B nz d, .agg #[.int .i64 0, .bool false, .int .i64 0, .int .u64 0, .slice C 0 f]]) ∧ Arcs w' B lz ∧ Sl w' C (([] : List Int).map (Value.int .i64)) ∧ Below W.heap.size W w'))
    (HZ : Hid (∀ W B d, Arcs W B lz → Calls Try.prog 14 #[.slice B nz d, .int .i64 u, .int .i64 v] W fun e w' => e = .returned (.tuple #[.int .u64 x, .bool true]) ∧ Below W.heap.size W w')) :
    Calls Try.prog 4 #[.agg #[.slice A n c, .int .i64 u, .int .i64 v, .int .u64 x]] w fun e w' => e = .returned (.bool true) ∧ Below w.heap.size w w' := by
  have T0 := Lib.hid ((Below.refl w.heap.size w).alloc (Nat.le_refl _) (.cells #[.slice A n c, .int .i64 u, .int .i64 v, .int .u64 x] 38))
  have G0 := Lib.hid (hl.below T0.out (Nat.le_refl _))
  have D1 := Lib.hid (shown_any (w.alloc (.cells #[.slice A n c, .int .i64 u, .int .i64 v, .int .u64 x] 38)))
  have d1 : decide ((40 : Int) < (n : Int)) = false := by simp; omega
  have d2 : decide (40 < n) = false := by simp; omega
  have HN := Lib.hid hn
  have H40 := Lib.hid (show g.length ≤ 999 from by omega)
  have HR := Lib.hid hr
  have HU : Hid (∀ W, Calls Try.prog 13 #[.int .i64 u] W fun e w' => e = .returned (.bool true) ∧ W = w') := Lib.hid (fun W => by have := is_any u W; rw [hu] at this; exact this)
  have HV : Hid (∀ W, Calls Try.prog 13 #[.int .i64 v] W fun e w' => e = .returned (.bool true) ∧ W = w') := Lib.hid (fun W => by have := is_any v W; rw [hv] at this; exact this)
  have NX := Lib.hid hnx
  clear hl hr hn hu hv hnx
  go_enter Try.func4, Try.ntmps4
  go_wp2_with (first
    | (go_at_call 8; ((with_reducible refine D1.out.mono ?_); rintro e w1 ⟨rfl, hb⟩; have G1 := Lib.hid (G0.out.below hb (Nat.le_refl _)); have T1 := Lib.hid (T0.out.trans (hb.mono T0.out.size)); have D2 := Lib.hid (right_eq c HN.out G1.out H40.out HR.out); clear hb))
    | (go_at_call 9; ((with_reducible refine D2.out.mono ?_); rintro e w2 ⟨rfl, hb⟩; have G2 := Lib.hid (G1.out.below hb (Nat.le_refl _)); have T2 := Lib.hid (T1.out.trans (hb.mono T1.out.size)); have D3 := Lib.hid (F1.out _ _ G2.out); clear hb))
    | (go_at_call 13; ((with_reducible refine (HU.out _).mono ?_); rintro e w' ⟨rfl, rfl⟩))
    | (go_at_call 13; ((with_reducible refine (HV.out _).mono ?_); rintro e w' ⟨rfl, rfl⟩))
    | (go_at_call 10; ((with_reducible refine D3.out.mono ?_); rintro e w3 ⟨B3, d3, C3, f3, rfl, hr, hs, hb⟩; have Y := Lib.hid (show Below w2.heap.size w2 (w3.alloc (.cells #[.int .i64 aX.err, .bool aX.is, .int .i64 aX.n, .int .u64 aX.w, .slice C3 aX.list.length f3] 31)) from hb.alloc hb.size _); have G3 := Lib.hid (G2.out.below Y.out (Nat.le_refl _)); have T3 := Lib.hid (T2.out.trans (Y.out.mono T2.out.size)); have X3 := Lib.hid (hr.below ((Below.refl w3.heap.size w3).alloc (Nat.le_refl _) (.cells #[.int .i64 aX.err, .bool aX.is, .int .i64 aX.n, .int .u64 aX.w, .slice C3 aX.list.length f3] 31)) (Nat.le_refl _)); have D4 := Lib.hid (F2.out (w3.alloc (.cells #[.int .i64 aX.err, .bool aX.is, .int .i64 aX.n, .int .u64 aX.w, .slice C3 aX.list.length f3] 31)) _ d3 X3.out); clear Y hb hr hs))
    | (go_at_call 10; ((with_reducible refine D4.out.mono ?_); rintro e w4 ⟨B4, d4, C4, f4, rfl, hr, hs, hb⟩; have Y := Lib.hid (show Below (w3.alloc (.cells #[.int .i64 aX.err, .bool aX.is, .int .i64 aX.n, .int .u64 aX.w, .slice C3 aX.list.length f3] 31)).heap.size (w3.alloc (.cells #[.int .i64 aX.err, .bool aX.is, .int .i64 aX.n, .int .u64 aX.w, .slice C3 aX.list.length f3] 31)) (w4.alloc (.cells #[.int .i64 aY.err, .bool aY.is, .int .i64 aY.n, .int .u64 aY.w, .slice C4 aY.list.length f4] 31)) from hb.alloc hb.size _); have G4 := Lib.hid (G3.out.below Y.out (Nat.le_refl _)); have T4 := Lib.hid (T3.out.trans (Y.out.mono T3.out.size)); have X4 := Lib.hid (X3.out.below Y.out (Nat.le_refl _)); have Y04 := Lib.hid (hr.below ((Below.refl w4.heap.size w4).alloc (Nat.le_refl _) (.cells #[.int .i64 aY.err, .bool aY.is, .int .i64 aY.n, .int .u64 aY.w, .slice C4 aY.list.length f4] 31)) (Nat.le_refl _)); have D5 := Lib.hid (F3.out (w4.alloc (.cells #[.int .i64 aY.err, .bool aY.is, .int .i64 aY.n, .int .u64 aY.w, .slice C4 aY.list.length f4] 31)) _ d4 Y04.out); clear Y hb hr hs))
    | (go_at_call 10; ((with_reducible refine D5.out.mono ?_); rintro e w5 ⟨B5, d5, C5, f5, rfl, hr, hs, hb⟩; have Y := Lib.hid (show Below (w4.alloc (.cells #[.int .i64 aY.err, .bool aY.is, .int .i64 aY.n, .int .u64 aY.w, .slice C4 aY.list.length f4] 31)).heap.size (w4.alloc (.cells #[.int .i64 aY.err, .bool aY.is, .int .i64 aY.n, .int .u64 aY.w, .slice C4 aY.list.length f4] 31)) (w5.alloc (.cells #[.int .i64 0, .bool true, .int .i64 0, .int .u64 0, .slice C5 0 f5] 31)) from hb.alloc hb.size _); have G5 := Lib.hid (G4.out.below Y.out (Nat.le_refl _)); have T5 := Lib.hid (T4.out.trans (Y.out.mono T4.out.size)); have X5 := Lib.hid (X4.out.below Y.out (Nat.le_refl _)); have Y05 := Lib.hid (Y04.out.below Y.out (Nat.le_refl _)); have KB5 := Lib.hid (show Cell (w5.alloc (.cells #[.int .i64 0, .bool true, .int .i64 0, .int .u64 0, .slice C5 0 f5] 31)) w5.heap.size 1 (.bool true) from Cell.new rfl); have KE5 := Lib.hid (show Cell (w5.alloc (.cells #[.int .i64 0, .bool true, .int .i64 0, .int .u64 0, .slice C5 0 f5] 31)) w5.heap.size 4 (.slice C5 0 f5) from Cell.new rfl); clear Y hb hr hs)))
  go_loopw [14, 15] (fun p j wr => ∃ i : Nat, i ≤ n ∧ p = .int .i64 ((kept (g.take i) (ends ⟨0, u, 0, 0⟩)).length : Nat) ∧ j = .int .i64 i ∧ Below (w5.alloc (.cells #[.int .i64 0, .bool true, .int .i64 0, .int .u64 0, .slice C5 0 f5] 31)).heap.size (w5.alloc (.cells #[.int .i64 0, .bool true, .int .i64 0, .int .u64 0, .slice C5 0 f5] 31)) wr) (fun _ j _ => n - (intOf j).toNat)
  case atStart => exact ⟨0, Nat.zero_le _, rfl, rfl, Below.refl _ _⟩
  case round =>
    obtain ⟨i, hi, rfl, rfl, hb⟩ := hrel
    have HB := Lib.hid hb
    have P0 := Lib.hid (G5.out.below hb (Nat.le_refl _))
    have X6 := Lib.hid (X5.out.below hb (Nat.le_refl _))
    have Q0 := Lib.hid (T5.out.trans (hb.mono T5.out.size))
    have KB6 := Lib.hid (KB5.out.later hb)
    have KE6 := Lib.hid (KE5.out.later hb)
    clear hb
    have p1 : (kept (g.take i) (ends ⟨0, u, 0, 0⟩)).length ≤ 40 := Nat.le_trans (kept_le _ _) (by rw [List.length_take]; omega)
    by_cases hlt : i < n
    · have hlt' : i < g.length := by rw [← HN.out]; exact hlt
      obtain ⟨b, off, hA, hcs⟩ := P0.out.2.2 (by omega)
      subst hA
      obtain ⟨c1, c2, c3⟩ := hcs i g[i] (List.getElem?_eq_getElem hlt')
      clear hcs
      obtain ⟨t, ht, hcall⟩ := HH.out wr.drew _ d3 (X6.out.below (Below.refl _ _).drew (Nat.le_refl _)) g[i] (List.getElem_mem hlt')
      have NT := Lib.hid (show (kept (g.take (i + 1)) (ends ⟨0, u, 0, 0⟩)).length = (kept (g.take i) (ends ⟨0, u, 0, 0⟩)).length + (if ends ⟨0, u, 0, 0⟩ g[i] then 0 else 1) from by rw [kept_next hlt', List.length_append]; split <;> rfl)
      obtain ⟨⟨au, av, aw⟩, hgi⟩ : ∃ r, g[i] = r := ⟨_, rfl⟩
      rw [hgi] at c1 c2 c3 ht hcall NT
      simp only at c1 c2 c3 hcall ht
      have i0 : (0 : Int) ≤ (i : Int) := by omega
      have i1 : (i : Int) < (n : Int) := by omega
      clear hgi hlt'
      generalize (kept (g.take i) (ends ⟨0, u, 0, 0⟩)).length = p at p1 NT ⊢
      have n1 : IntKind.i64.wrap ((p : Int) + 1) = (p : Int) + 1 := by rw [IntKind.wrap_i64] <;> omega
      have n3 : IntKind.i64.wrap ((i : Int) + 1) = (i : Int) + 1 := by rw [IntKind.wrap_i64] <;> omega
      have HK := Lib.hid (show wr.drew.cell? ⟨b, off + i * 3, none⟩ = some (.int .i64 au) ∧ wr.drew.cell? ⟨b, off + i * 3 + 1, none⟩ = some (.int .i64 av) ∧ wr.drew.cell? ⟨b, off + i * 3 + 2, none⟩ = some (.int .u64 aw) ∧ Below wr.heap.size wr wr.drew from ⟨c1, c2, c3, (Below.refl _ _).drew⟩)
      by_cases hu : au = u
      · have hu2 := hu.symm
        clear hu
        subst hu2
        have he : ends ⟨0, u, 0, 0⟩ ⟨u, av, aw⟩ = true := decide_eq_true (.inl rfl)
        rw [he] at hcall ht NT
        clear ht he
        have HC := Lib.hid hcall
        clear hcall
        go_wp2
        go_region_held3 (fun w' => w'.cell? ⟨b, off + i * 3, none⟩ = some (.int .i64 u) ∧ w'.cell? ⟨b, off + i * 3 + 1, none⟩ = some (.int .i64 av) ∧ w'.cell? ⟨b, off + i * 3 + 2, none⟩ = some (.int .u64 aw) ∧ Below wr.heap.size wr w') (first | exact HK.out | assumption | exact keep3 (by assumption) (by assumption))
          (first | (go_at_call 14; refine HC.out.mono ?_; rintro e w' ⟨rfl, hb⟩))
        have HX := Lib.hid (HB.out.trans (((Below.refl _ _).drew.trans hb).mono HB.out.size))
        clear hb c1 c2 c3
        go_wp2
        go_roundw
        case rel => exact ⟨i + 1, by omega, by rw [NT.out]; rfl, by go_num, HX.out⟩
        case measure => simp [intOf]; omega
      · have g0 : (au == u) = false := by simpa using hu
        have g2 : (au != u) = true := by simpa using hu
        by_cases hw : av = u
        · have hw2 := hw.symm
          clear hw
          subst hw2
          have he : ends ⟨0, u, 0, 0⟩ ⟨au, u, aw⟩ = true := decide_eq_true (.inr rfl)
          rw [he] at hcall ht NT
          clear ht he
          have HC := Lib.hid hcall
          clear hcall
          go_wp2
          go_region_held3 (fun w' => w'.cell? ⟨b, off + i * 3, none⟩ = some (.int .i64 au) ∧ w'.cell? ⟨b, off + i * 3 + 1, none⟩ = some (.int .i64 u) ∧ w'.cell? ⟨b, off + i * 3 + 2, none⟩ = some (.int .u64 aw) ∧ Below wr.heap.size wr w') (first | exact HK.out | assumption | exact keep3 (by assumption) (by assumption))
            (first | (go_at_call 14; refine HC.out.mono ?_; rintro e w' ⟨rfl, hb⟩))
          have HX := Lib.hid (HB.out.trans (((Below.refl _ _).drew.trans hb).mono HB.out.size))
          clear hb c1 c2 c3
          go_wp2
          go_roundw
          case rel => exact ⟨i + 1, by omega, by rw [NT.out]; rfl, by go_num, HX.out⟩
          case measure => simp [intOf]; omega
        · have g1 : (av == u) = false := by simpa using hw
          have g3 : (av != u) = true := by simpa using hw
          have he : ends ⟨0, u, 0, 0⟩ ⟨au, av, aw⟩ = false := decide_eq_false (fun z => by rcases z with z | z; exact hu z; exact hw z)
          rw [he] at hcall ht NT
          obtain rfl : t = aw := ht rfl
          clear ht he
          have HC := Lib.hid hcall
          clear hcall
          go_wp2
          go_region_held3 (fun w' => w'.cell? ⟨b, off + i * 3, none⟩ = some (.int .i64 au) ∧ w'.cell? ⟨b, off + i * 3 + 1, none⟩ = some (.int .i64 av) ∧ w'.cell? ⟨b, off + i * 3 + 2, none⟩ = some (.int .u64 t) ∧ Below wr.heap.size wr w') (first | exact HK.out | assumption | exact keep3 (by assumption) (by assumption))
            (first | (go_at_call 14; refine HC.out.mono ?_; rintro e w' ⟨rfl, hb⟩))
          have HX := Lib.hid (HB.out.trans (((Below.refl _ _).drew.trans hb).mono HB.out.size))
          have c3' := (hb.cell (p := ⟨b, off + i * 3 + 2, none⟩) (World.block_lt_of_cell? _ _ HK.out.2.2.1)).trans HK.out.2.2.1
          clear hb c1 c2 c3
          go_wp2
          refine ⟨⟨i + 1, by omega, by rw [NT.out]; rfl, by go_num, HX.out⟩, by simp [intOf]; omega⟩
    · obtain rfl : i = n := by omega
      rw [List.take_of_length_le (by rw [HN.out]; exact Nat.le_refl _), ← NX.out]
      clear NX p1
      have E1 := Lib.hid (HO.out _ _ P0.out)
      have kb := KB6.out.at
      have ke := KE6.out.at
      have n1 : IntKind.i64.wrap ((nx : Int) + 1) = (nx : Int) + 1 := by rw [IntKind.wrap_i64] <;> omega
      go_wp2_with (first
          | (go_at_call 14; ((with_reducible refine E1.out.mono ?_); rintro e w1 ⟨rfl, hb⟩; have P1 := Lib.hid (P0.out.below hb (Nat.le_refl _)); have Q1 := Lib.hid (Q0.out.trans (hb.mono Q0.out.size)); have E2 := Lib.hid (F4.out _ _ P1.out); clear hb kb ke))
          | (go_at_call 10; ((with_reducible refine E2.out.mono ?_); rintro e w2 ⟨B2, d2, C2, f2, rfl, hr, hs, hb⟩; have Y := Lib.hid (show Below w1.heap.size w1 (w2.alloc (.cells #[.int .i64 0, .bool false, .int .i64 0, .int .u64 0, .slice C2 0 f2] 31)) from hb.alloc hb.size _); have P2 := Lib.hid (P1.out.below Y.out (Nat.le_refl _)); have Q2 := Lib.hid (Q1.out.trans (Y.out.mono Q1.out.size)); have Z2 := Lib.hid (hr.below ((Below.refl w2.heap.size w2).alloc (Nat.le_refl _) (.cells #[.int .i64 0, .bool false, .int .i64 0, .int .u64 0, .slice C2 0 f2] 31)) (Nat.le_refl _)); have KR2 := Lib.hid (show Cell (w2.alloc (.cells #[.int .i64 0, .bool false, .int .i64 0, .int .u64 0, .slice C2 0 f2] 31)) w2.heap.size 0 (.int .i64 0) from Cell.new rfl); have E3 := Lib.hid (HZ.out _ _ d2 Z2.out); clear Y hb hr hs))
          | (go_at_call 14; ((with_reducible refine E3.out.mono ?_); rintro e w3 ⟨rfl, hb⟩; have P3 := Lib.hid (P2.out.below hb (Nat.le_refl _)); have Q3 := Lib.hid (Q2.out.trans (hb.mono Q2.out.size)); have Z3 := Lib.hid (Z2.out.below hb (Nat.le_refl _)); have KR3 := Lib.hid (KR2.out.later hb); have kr := KR3.out.at; clear hb)))
      go_ret
      exact ⟨rfl, Q3.out⟩
set_option maxHeartbeats 16000000 in
set_option maxRecDepth 100000 in
theorem ends_full_no (A : Option Addr) (c n nx nz : Nat) (g lx ly lz : List Arc) (aX aY : Ans) (u v x z : Int) (w : World) (hn : n = g.length) (hl : Arcs w A g) (h40 : n ≤ 40) (hnx : nx = (kept g (ends ⟨0, u, 0, 0⟩)).length) (hx40 : nx ≤ 41)
    (hr : rightB g = true) (hu : isV u = true) (hv : isV v = true)
    (F1 : Hid (∀ W B, Arcs W B g → Calls Try.prog 10 #[.slice B n c, .agg #[.int .i64 12, .int .i64 u, .int .i64 0, .int .u64 0]] W fun e w' => ∃ B d C f, e = .returned (.tuple #[.slice B nx d, .agg #[.int .i64 aX.err, .bool aX.is, .int .i64 aX.n, .int .u64 aX.w, .slice C aX.list.length f]]) ∧ Arcs w' B lx ∧ Sl w' C (aX.list.map (Value.int .i64)) ∧ Below W.heap.size W w'))
    (F2 : Hid (∀ W B d, Arcs W B lx → Calls Try.prog 10 #[.slice B nx d, .agg #[.int .i64 11, .int .i64 u, .int .i64 0, .int .u64 0]] W fun e w' => ∃ B d C f, e = .returned (.tuple #[.slice B (nx + 1 : Nat) d, .agg #[.int .i64 aY.err, .bool aY.is, .int .i64 aY.n, .int .u64 aY.w, .slice C aY.list.length f]]) ∧ Arcs w' B ly ∧ Sl w' C (aY.list.map (Value.int .i64)) ∧ Below W.heap.size W w'))
    (F3 : Hid (∀ W B d, Arcs W B ly → Calls Try.prog 10 #[.slice B (nx + 1 : Nat) d, .agg #[.int .i64 17, .int .i64 u, .int .i64 0, .int .u64 0]] W fun e w' => ∃ B d C f, e = .returned (.tuple #[.slice B (nx + 1 : Nat) d, .agg #[.int .i64 0, .bool true, .int .i64 0, .int .u64 0, .slice C 0 f]]) ∧ Arcs w' B ly ∧ Sl w' C (([] : List Int).map (Value.int .i64)) ∧ Below W.heap.size W w'))
    (HH : Hid (∀ W B d, Arcs W B lx → ∀ a ∈ g, ∃ t, (ends ⟨0, u, 0, 0⟩ a = false → t = a.w) ∧ Calls Try.prog 14 #[.slice B nx d, .int .i64 a.u, .int .i64 a.v] W fun e w' => e = .returned (.tuple #[.int .u64 t, .bool (!ends ⟨0, u, 0, 0⟩ a)]) ∧ Below W.heap.size W w') )
    (HO : Hid (∀ W B, Arcs W B g → Calls Try.prog 14 #[.slice B n c, .int .i64 u, .int .i64 v] W fun e w' => e = .returned (.tuple #[.int .u64 0, .bool false]) ∧ Below W.heap.size W w'))
    (F4 : Hid (∀ W B, Arcs W B g → Calls Try.prog 10 #[.slice B n c, .agg #[.int .i64 14, .int .i64 u, .int .i64 v, .int .u64 x]] W fun e w' => ∃ B d C f, e = .returned (.tuple #[.slice B nz d, .agg #[.int .i64 5, .bool false, .int .i64 0, .int .u64 0, .slice C 0 f]]) ∧ Arcs w' B lz ∧ Sl w' C (([] : List Int).map (Value.int .i64)) ∧ Below W.heap.size W w'))
    (HZ : Hid (∀ W B d, Arcs W B lz → Calls Try.prog 14 #[.slice B nz d, .int .i64 u, .int .i64 v] W fun e w' => e = .returned (.tuple #[.int .u64 z, .bool false]) ∧ Below W.heap.size W w')) :
    Calls Try.prog 4 #[.agg #[.slice A n c, .int .i64 u, .int .i64 v, .int .u64 x]] w fun e w' => e = .returned (.bool true) ∧ Below w.heap.size w w' := by
  have T0 := Lib.hid ((Below.refl w.heap.size w).alloc (Nat.le_refl _) (.cells #[.slice A n c, .int .i64 u, .int .i64 v, .int .u64 x] 38))
  have G0 := Lib.hid (hl.below T0.out (Nat.le_refl _))
  have D1 := Lib.hid (shown_any (w.alloc (.cells #[.slice A n c, .int .i64 u, .int .i64 v, .int .u64 x] 38)))
  have d1 : decide ((40 : Int) < (n : Int)) = false := by simp; omega
  have d2 : decide (40 < n) = false := by simp; omega
  have HN := Lib.hid hn
  have H40 := Lib.hid (show g.length ≤ 999 from by omega)
  have HR := Lib.hid hr
  have HU : Hid (∀ W, Calls Try.prog 13 #[.int .i64 u] W fun e w' => e = .returned (.bool true) ∧ W = w') := Lib.hid (fun W => by have := is_any u W; rw [hu] at this; exact this)
  have HV : Hid (∀ W, Calls Try.prog 13 #[.int .i64 v] W fun e w' => e = .returned (.bool true) ∧ W = w') := Lib.hid (fun W => by have := is_any v W; rw [hv] at this; exact this)
  have NX := Lib.hid hnx
  clear hl hr hn hu hv hnx
  go_enter Try.func4, Try.ntmps4
  go_wp2_with (first
    | (go_at_call 8; ((with_reducible refine D1.out.mono ?_); rintro e w1 ⟨rfl, hb⟩; have G1 := Lib.hid (G0.out.below hb (Nat.le_refl _)); have T1 := Lib.hid (T0.out.trans (hb.mono T0.out.size)); have D2 := Lib.hid (right_eq c HN.out G1.out H40.out HR.out); clear hb))
    | (go_at_call 9; ((with_reducible refine D2.out.mono ?_); rintro e w2 ⟨rfl, hb⟩; have G2 := Lib.hid (G1.out.below hb (Nat.le_refl _)); have T2 := Lib.hid (T1.out.trans (hb.mono T1.out.size)); have D3 := Lib.hid (F1.out _ _ G2.out); clear hb))
    | (go_at_call 13; ((with_reducible refine (HU.out _).mono ?_); rintro e w' ⟨rfl, rfl⟩))
    | (go_at_call 13; ((with_reducible refine (HV.out _).mono ?_); rintro e w' ⟨rfl, rfl⟩))
    | (go_at_call 10; ((with_reducible refine D3.out.mono ?_); rintro e w3 ⟨B3, d3, C3, f3, rfl, hr, hs, hb⟩; have Y := Lib.hid (show Below w2.heap.size w2 (w3.alloc (.cells #[.int .i64 aX.err, .bool aX.is, .int .i64 aX.n, .int .u64 aX.w, .slice C3 aX.list.length f3] 31)) from hb.alloc hb.size _); have G3 := Lib.hid (G2.out.below Y.out (Nat.le_refl _)); have T3 := Lib.hid (T2.out.trans (Y.out.mono T2.out.size)); have X3 := Lib.hid (hr.below ((Below.refl w3.heap.size w3).alloc (Nat.le_refl _) (.cells #[.int .i64 aX.err, .bool aX.is, .int .i64 aX.n, .int .u64 aX.w, .slice C3 aX.list.length f3] 31)) (Nat.le_refl _)); have D4 := Lib.hid (F2.out (w3.alloc (.cells #[.int .i64 aX.err, .bool aX.is, .int .i64 aX.n, .int .u64 aX.w, .slice C3 aX.list.length f3] 31)) _ d3 X3.out); clear Y hb hr hs))
    | (go_at_call 10; ((with_reducible refine D4.out.mono ?_); rintro e w4 ⟨B4, d4, C4, f4, rfl, hr, hs, hb⟩; have Y := Lib.hid (show Below (w3.alloc (.cells #[.int .i64 aX.err, .bool aX.is, .int .i64 aX.n, .int .u64 aX.w, .slice C3 aX.list.length f3] 31)).heap.size (w3.alloc (.cells #[.int .i64 aX.err, .bool aX.is, .int .i64 aX.n, .int .u64 aX.w, .slice C3 aX.list.length f3] 31)) (w4.alloc (.cells #[.int .i64 aY.err, .bool aY.is, .int .i64 aY.n, .int .u64 aY.w, .slice C4 aY.list.length f4] 31)) from hb.alloc hb.size _); have G4 := Lib.hid (G3.out.below Y.out (Nat.le_refl _)); have T4 := Lib.hid (T3.out.trans (Y.out.mono T3.out.size)); have X4 := Lib.hid (X3.out.below Y.out (Nat.le_refl _)); have Y04 := Lib.hid (hr.below ((Below.refl w4.heap.size w4).alloc (Nat.le_refl _) (.cells #[.int .i64 aY.err, .bool aY.is, .int .i64 aY.n, .int .u64 aY.w, .slice C4 aY.list.length f4] 31)) (Nat.le_refl _)); have D5 := Lib.hid (F3.out (w4.alloc (.cells #[.int .i64 aY.err, .bool aY.is, .int .i64 aY.n, .int .u64 aY.w, .slice C4 aY.list.length f4] 31)) _ d4 Y04.out); clear Y hb hr hs))
    | (go_at_call 10; ((with_reducible refine D5.out.mono ?_); rintro e w5 ⟨B5, d5, C5, f5, rfl, hr, hs, hb⟩; have Y := Lib.hid (show Below (w4.alloc (.cells #[.int .i64 aY.err, .bool aY.is, .int .i64 aY.n, .int .u64 aY.w, .slice C4 aY.list.length f4] 31)).heap.size (w4.alloc (.cells #[.int .i64 aY.err, .bool aY.is, .int .i64 aY.n, .int .u64 aY.w, .slice C4 aY.list.length f4] 31)) (w5.alloc (.cells #[.int .i64 0, .bool true, .int .i64 0, .int .u64 0, .slice C5 0 f5] 31)) from hb.alloc hb.size _); have G5 := Lib.hid (G4.out.below Y.out (Nat.le_refl _)); have T5 := Lib.hid (T4.out.trans (Y.out.mono T4.out.size)); have X5 := Lib.hid (X4.out.below Y.out (Nat.le_refl _)); have Y05 := Lib.hid (Y04.out.below Y.out (Nat.le_refl _)); have KB5 := Lib.hid (show Cell (w5.alloc (.cells #[.int .i64 0, .bool true, .int .i64 0, .int .u64 0, .slice C5 0 f5] 31)) w5.heap.size 1 (.bool true) from Cell.new rfl); have KE5 := Lib.hid (show Cell (w5.alloc (.cells #[.int .i64 0, .bool true, .int .i64 0, .int .u64 0, .slice C5 0 f5] 31)) w5.heap.size 4 (.slice C5 0 f5) from Cell.new rfl); clear Y hb hr hs)))
  go_loopw [14, 15] (fun p j wr => ∃ i : Nat, i ≤ n ∧ p = .int .i64 ((kept (g.take i) (ends ⟨0, u, 0, 0⟩)).length : Nat) ∧ j = .int .i64 i ∧ Below (w5.alloc (.cells #[.int .i64 0, .bool true, .int .i64 0, .int .u64 0, .slice C5 0 f5] 31)).heap.size (w5.alloc (.cells #[.int .i64 0, .bool true, .int .i64 0, .int .u64 0, .slice C5 0 f5] 31)) wr) (fun _ j _ => n - (intOf j).toNat)
  case atStart => exact ⟨0, Nat.zero_le _, rfl, rfl, Below.refl _ _⟩
  case round =>
    obtain ⟨i, hi, rfl, rfl, hb⟩ := hrel
    have HB := Lib.hid hb
    have P0 := Lib.hid (G5.out.below hb (Nat.le_refl _))
    have X6 := Lib.hid (X5.out.below hb (Nat.le_refl _))
    have Q0 := Lib.hid (T5.out.trans (hb.mono T5.out.size))
    have KB6 := Lib.hid (KB5.out.later hb)
    have KE6 := Lib.hid (KE5.out.later hb)
    clear hb
    have p1 : (kept (g.take i) (ends ⟨0, u, 0, 0⟩)).length ≤ 40 := Nat.le_trans (kept_le _ _) (by rw [List.length_take]; omega)
    by_cases hlt : i < n
    · have hlt' : i < g.length := by rw [← HN.out]; exact hlt
      obtain ⟨b, off, hA, hcs⟩ := P0.out.2.2 (by omega)
      subst hA
      obtain ⟨c1, c2, c3⟩ := hcs i g[i] (List.getElem?_eq_getElem hlt')
      clear hcs
      obtain ⟨t, ht, hcall⟩ := HH.out wr.drew _ d3 (X6.out.below (Below.refl _ _).drew (Nat.le_refl _)) g[i] (List.getElem_mem hlt')
      have NT := Lib.hid (show (kept (g.take (i + 1)) (ends ⟨0, u, 0, 0⟩)).length = (kept (g.take i) (ends ⟨0, u, 0, 0⟩)).length + (if ends ⟨0, u, 0, 0⟩ g[i] then 0 else 1) from by rw [kept_next hlt', List.length_append]; split <;> rfl)
      obtain ⟨⟨au, av, aw⟩, hgi⟩ : ∃ r, g[i] = r := ⟨_, rfl⟩
      rw [hgi] at c1 c2 c3 ht hcall NT
      simp only at c1 c2 c3 hcall ht
      have i0 : (0 : Int) ≤ (i : Int) := by omega
      have i1 : (i : Int) < (n : Int) := by omega
      clear hgi hlt'
      generalize (kept (g.take i) (ends ⟨0, u, 0, 0⟩)).length = p at p1 NT ⊢
      have n1 : IntKind.i64.wrap ((p : Int) + 1) = (p : Int) + 1 := by rw [IntKind.wrap_i64] <;> omega
      have n3 : IntKind.i64.wrap ((i : Int) + 1) = (i : Int) + 1 := by rw [IntKind.wrap_i64] <;> omega
      have HK := Lib.hid (show wr.drew.cell? ⟨b, off + i * 3, none⟩ = some (.int .i64 au) ∧ wr.drew.cell? ⟨b, off + i * 3 + 1, none⟩ = some (.int .i64 av) ∧ wr.drew.cell? ⟨b, off + i * 3 + 2, none⟩ = some (.int .u64 aw) ∧ Below wr.heap.size wr wr.drew from ⟨c1, c2, c3, (Below.refl _ _).drew⟩)
      by_cases hu : au = u
      · have hu2 := hu.symm
        clear hu
        subst hu2
        have he : ends ⟨0, u, 0, 0⟩ ⟨u, av, aw⟩ = true := decide_eq_true (.inl rfl)
        rw [he] at hcall ht NT
        clear ht he
        have HC := Lib.hid hcall
        clear hcall
        go_wp2
        go_region_held3 (fun w' => w'.cell? ⟨b, off + i * 3, none⟩ = some (.int .i64 u) ∧ w'.cell? ⟨b, off + i * 3 + 1, none⟩ = some (.int .i64 av) ∧ w'.cell? ⟨b, off + i * 3 + 2, none⟩ = some (.int .u64 aw) ∧ Below wr.heap.size wr w') (first | exact HK.out | assumption | exact keep3 (by assumption) (by assumption))
          (first | (go_at_call 14; refine HC.out.mono ?_; rintro e w' ⟨rfl, hb⟩))
        have HX := Lib.hid (HB.out.trans (((Below.refl _ _).drew.trans hb).mono HB.out.size))
        clear hb c1 c2 c3
        go_wp2
        go_roundw
        case rel => exact ⟨i + 1, by omega, by rw [NT.out]; rfl, by go_num, HX.out⟩
        case measure => simp [intOf]; omega
      · have g0 : (au == u) = false := by simpa using hu
        have g2 : (au != u) = true := by simpa using hu
        by_cases hw : av = u
        · have hw2 := hw.symm
          clear hw
          subst hw2
          have he : ends ⟨0, u, 0, 0⟩ ⟨au, u, aw⟩ = true := decide_eq_true (.inr rfl)
          rw [he] at hcall ht NT
          clear ht he
          have HC := Lib.hid hcall
          clear hcall
          go_wp2
          go_region_held3 (fun w' => w'.cell? ⟨b, off + i * 3, none⟩ = some (.int .i64 au) ∧ w'.cell? ⟨b, off + i * 3 + 1, none⟩ = some (.int .i64 u) ∧ w'.cell? ⟨b, off + i * 3 + 2, none⟩ = some (.int .u64 aw) ∧ Below wr.heap.size wr w') (first | exact HK.out | assumption | exact keep3 (by assumption) (by assumption))
            (first | (go_at_call 14; refine HC.out.mono ?_; rintro e w' ⟨rfl, hb⟩))
          have HX := Lib.hid (HB.out.trans (((Below.refl _ _).drew.trans hb).mono HB.out.size))
          clear hb c1 c2 c3
          go_wp2
          go_roundw
          case rel => exact ⟨i + 1, by omega, by rw [NT.out]; rfl, by go_num, HX.out⟩
          case measure => simp [intOf]; omega
        · have g1 : (av == u) = false := by simpa using hw
          have g3 : (av != u) = true := by simpa using hw
          have he : ends ⟨0, u, 0, 0⟩ ⟨au, av, aw⟩ = false := decide_eq_false (fun z => by rcases z with z | z; exact hu z; exact hw z)
          rw [he] at hcall ht NT
          obtain rfl : t = aw := ht rfl
          clear ht he
          have HC := Lib.hid hcall
          clear hcall
          go_wp2
          go_region_held3 (fun w' => w'.cell? ⟨b, off + i * 3, none⟩ = some (.int .i64 au) ∧ w'.cell? ⟨b, off + i * 3 + 1, none⟩ = some (.int .i64 av) ∧ w'.cell? ⟨b, off + i * 3 + 2, none⟩ = some (.int .u64 t) ∧ Below wr.heap.size wr w') (first | exact HK.out | assumption | exact keep3 (by assumption) (by assumption))
            (first | (go_at_call 14; refine HC.out.mono ?_; rintro e w' ⟨rfl, hb⟩))
          have HX := Lib.hid (HB.out.trans (((Below.refl _ _).drew.trans hb).mono HB.out.size))
          have c3' := (hb.cell (p := ⟨b, off + i * 3 + 2, none⟩) (World.block_lt_of_cell? _ _ HK.out.2.2.1)).trans HK.out.2.2.1
          clear hb c1 c2 c3
          go_wp2
          refine ⟨⟨i + 1, by omega, by rw [NT.out]; rfl, by go_num, HX.out⟩, by simp [intOf]; omega⟩
    · obtain rfl : i = n := by omega
      rw [List.take_of_length_le (by rw [HN.out]; exact Nat.le_refl _), ← NX.out]
      clear NX p1
      have E1 := Lib.hid (HO.out _ _ P0.out)
      have kb := KB6.out.at
      have ke := KE6.out.at
      have n1 : IntKind.i64.wrap ((nx : Int) + 1) = (nx : Int) + 1 := by rw [IntKind.wrap_i64] <;> omega
      go_wp2_with (first
          | (go_at_call 14; ((with_reducible refine E1.out.mono ?_); rintro e w1 ⟨rfl, hb⟩; have P1 := Lib.hid (P0.out.below hb (Nat.le_refl _)); have Q1 := Lib.hid (Q0.out.trans (hb.mono Q0.out.size)); have E2 := Lib.hid (F4.out _ _ P1.out); clear hb kb ke))
          | (go_at_call 10; ((with_reducible refine E2.out.mono ?_); rintro e w2 ⟨B2, d2, C2, f2, rfl, hr, hs, hb⟩; have Y := Lib.hid (show Below w1.heap.size w1 (w2.alloc (.cells #[.int .i64 5, .bool false, .int .i64 0, .int .u64 0, .slice C2 0 f2] 31)) from hb.alloc hb.size _); have P2 := Lib.hid (P1.out.below Y.out (Nat.le_refl _)); have Q2 := Lib.hid (Q1.out.trans (Y.out.mono Q1.out.size)); have Z2 := Lib.hid (hr.below ((Below.refl w2.heap.size w2).alloc (Nat.le_refl _) (.cells #[.int .i64 5, .bool false, .int .i64 0, .int .u64 0, .slice C2 0 f2] 31)) (Nat.le_refl _)); have KR2 := Lib.hid (show Cell (w2.alloc (.cells #[.int .i64 5, .bool false, .int .i64 0, .int .u64 0, .slice C2 0 f2] 31)) w2.heap.size 0 (.int .i64 5) from Cell.new rfl); have E3 := Lib.hid (HZ.out _ _ d2 Z2.out); clear Y hb hr hs))
          | (go_at_call 14; ((with_reducible refine E3.out.mono ?_); rintro e w3 ⟨rfl, hb⟩; have P3 := Lib.hid (P2.out.below hb (Nat.le_refl _)); have Q3 := Lib.hid (Q2.out.trans (hb.mono Q2.out.size)); have Z3 := Lib.hid (Z2.out.below hb (Nat.le_refl _)); have KR3 := Lib.hid (KR2.out.later hb); have kr := KR3.out.at; clear hb)))
      go_ret
      exact ⟨rfl, Q3.out⟩
theorem ends_any (A : Option Addr) (c : Nat) (g : List Arc) (u v x : Int) (w : World) (hl : Arcs w A g) (hx1 : 0 ≤ x) (hx2 : x < 18446744073709551616) : Calls Try.prog 4 #[.agg #[.slice A g.length c, .int .i64 u, .int .i64 v, .int .u64 x]] w fun e w' => e = .returned (.bool true) ∧ Below w.heap.size w w' := by
  by_cases h : 40 < g.length
  · exact ends_long A c g.length u v x w h
  have h40 : g.length ≤ 40 := by omega
  cases hr : rightB g
  · exact ends_wrong A c g.length g u v x w rfl hl h40 hr
  cases hu : isV u
  · exact ends_nou A c g.length g u v x w rfl hl h40 hr hu
  cases hv : isV v
  · exact ends_nov A c g.length g u v x w rfl hl h40 hr hu hv
  have hR := R.ofB hr
  obtain ⟨u1, u2⟩ := isV_t hu
  obtain ⟨v1, v2⟩ := isV_t hv
  have f12 : Fit ⟨12, u, 0, 0⟩ := fit_of (by decide) (by decide) hu (fun q => by cases q)
  have f11 : Fit ⟨11, u, 0, 0⟩ := fit_of (by decide) (by decide) hu (fun q => by cases q)
  have f17 : Fit ⟨17, u, 0, 0⟩ := fit_of (by decide) (by decide) hu (fun q => by cases q)
  have f14 : Fit ⟨14, u, v, x⟩ := fit_of (by decide) (by decide) hu (fun _ => hv)
  have o12 : (⟨12, u, 0, 0⟩ : Op).Fine := by unfold Op.Fine; simp only; omega
  have o11 : (⟨11, u, 0, 0⟩ : Op).Fine := by unfold Op.Fine; simp only; omega
  have o17 : (⟨17, u, 0, 0⟩ : Op).Fine := by unfold Op.Fine; simp only; omega
  have o14 : (⟨14, u, v, x⟩ : Op).Fine := by unfold Op.Fine; simp only; omega
  have hX := hR.do ⟨12, u, 0, 0⟩
  have hY := hX.do ⟨11, u, 0, 0⟩
  have hZ := hR.do ⟨14, u, v, x⟩
  have l0 := len_do g ⟨14, u, v, x⟩
  have l1 : (doG g ⟨12, u, 0, 0⟩).length ≤ g.length := by rw [doG_12 f12 rfl]; exact kept_le _ _
  have l2 := back_len (l := g) f12 rfl f11 rfl rfl
  have n2 := back_near (l := g) f12 rfl f11 rfl rfl
  have i2 := addv_in (l := doG g ⟨12, u, 0, 0⟩) f11 rfl
  have e3 : doA (doG (doG g ⟨12, u, 0, 0⟩) ⟨11, u, 0, 0⟩) ⟨17, u, 0, 0⟩ = ⟨0, true, 0, 0, []⟩ := by
    rw [doA_17 f17 rfl]
    simp only at i2 n2
    rw [i2, n2]
  have hnx : (doG g ⟨12, u, 0, 0⟩).length = (kept g (ends ⟨0, u, 0, 0⟩)).length := by rw [doG_12 f12 rfl]; rfl
  have F1 := Lib.hid fun (W : World) (B : Option Addr) (hB : Arcs W B g) => do_eq c (o := ⟨12, u, 0, 0⟩) (n := g.length) rfl hB hR.rises (by omega) o12 rfl rfl rfl
  have F2 := Lib.hid fun (W : World) (B : Option Addr) (d : Nat) (hB : Arcs W B (doG g ⟨12, u, 0, 0⟩)) => do_eq d (o := ⟨11, u, 0, 0⟩) (n := (doG g ⟨12, u, 0, 0⟩).length) rfl hB hX.rises (by omega) o11 rfl rfl l2
  have F3 := Lib.hid fun (W : World) (B : Option Addr) (d : Nat) (hB : Arcs W B (doG (doG g ⟨12, u, 0, 0⟩) ⟨11, u, 0, 0⟩)) => do_eq d (o := ⟨17, u, 0, 0⟩) (n := (doG g ⟨12, u, 0, 0⟩).length + 1) l2.symm hB hY.rises (by omega) o17 (ask_do (.inr (.inr rfl))) e3 l2
  have HH : Hid (∀ W B d, Arcs W B (doG g ⟨12, u, 0, 0⟩) → ∀ a ∈ g, ∃ t, (ends ⟨0, u, 0, 0⟩ a = false → t = a.w) ∧ Calls Try.prog 14 #[.slice B (doG g ⟨12, u, 0, 0⟩).length d, .int .i64 a.u, .int .i64 a.v] W fun e w' => e = .returned (.tuple #[.int .u64 t, .bool (!ends ⟨0, u, 0, 0⟩ a)]) ∧ Below W.heap.size W w') :=
    Lib.hid fun W B d hB a ha => by
      obtain ⟨q1, q2⟩ := remv_has hR f12 rfl ha
      exact ⟨_, q2, has_eq d rfl hB hX.rises (by omega) rfl q1⟩
  cases hb : both g ⟨14, u, v, x⟩
  · have hw : hasB g u v = false := by
      cases hw : hasB g u v
      · rfl
      · have := both_iff.2 (show inB g (⟨14, u, v, x⟩ : Op).u = true ∧ inB g (⟨14, u, v, x⟩ : Op).v = true from edge_both (u := u) (v := v) hR (by omega) hw)
        rw [hb] at this; cases this
    have e4 : doA g ⟨14, u, v, x⟩ = ⟨5, false, 0, 0, []⟩ := by rw [doA_14 f14 (.inl rfl), hb]; rfl
    have g4 : doG g ⟨14, u, v, x⟩ = g := err_do (by rw [e4]; decide)
    exact ends_full_no A c g.length _ _ g _ _ _ _ _ u v x 0 w rfl hl h40 hnx (by omega) hr hu hv F1 F2 F3 HH
      (Lib.hid fun W B hB => has_eq c rfl hB hR.rises (by omega) (hasW_no hw) hw)
      (Lib.hid fun W B hB => do_eq c (o := ⟨14, u, v, x⟩) (n := g.length) rfl hB hR.rises (by omega) o14 g4 e4 rfl)
      (Lib.hid fun W B d hB => has_eq d rfl hB hR.rises (by omega) (hasW_no hw) hw)
  · have e4 : doA g ⟨14, u, v, x⟩ = ⟨0, false, 0, 0, []⟩ := by rw [doA_14 f14 (.inl rfl), hb]; rfl
    have i4 := adde_in (l := g) f14 rfl hb
    have w4 := adde_w hR f14 rfl hb
    simp only at i4 w4
    cases hw : hasB g u v
    · rw [hw] at w4
      exact ends_full_bn A c g.length _ _ g _ _ _ _ _ u v x w rfl hl h40 hnx (by omega) hr hu hv F1 F2 F3 HH
        (Lib.hid fun W B hB => has_eq c rfl hB hR.rises (by omega) (hasW_no hw) hw)
        (Lib.hid fun W B hB => do_eq c (o := ⟨14, u, v, x⟩) (n := g.length) rfl hB hR.rises (by omega) o14 rfl e4 rfl)
        (Lib.hid fun W B d hB => has_eq d rfl hB hZ.rises (by omega) w4 i4)
    · rw [hw] at w4
      exact ends_full_bw A c g.length _ _ g _ _ _ _ _ u v x _ w rfl hl h40 hnx (by omega) hr hu hv F1 F2 F3 HH
        (Lib.hid fun W B hB => has_eq c rfl hB hR.rises (by omega) rfl hw)
        (Lib.hid fun W B hB => do_eq c (o := ⟨14, u, v, x⟩) (n := g.length) rfl hB hR.rises (by omega) o14 rfl e4 rfl)
        (Lib.hid fun W B d hB => has_eq d rfl hB hZ.rises (by omega) w4 i4)
end Go.Proofs.Ytmlcghbhkpbaeaa
