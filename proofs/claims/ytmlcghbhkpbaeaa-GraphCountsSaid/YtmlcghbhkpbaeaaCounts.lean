/- GraphCounts: the walk. -/
import Derived.Test.YtmlcghbhkpbaeaaStaysP
namespace Go.Proofs.Ytmlcghbhkpbaeaa
open Go.RowKit Aid

set_option maxRecDepth 100000 in
theorem counts_long (A : Option Addr) (c n : Nat) (k u v x : Int) (w : World) (h : 40 < n) : Calls Try.prog 6 #[.slice A n c, .agg #[.int .i64 k, .int .i64 u, .int .i64 v, .int .u64 x]] w fun e w' => e = .returned (.bool true) ∧ Below w.heap.size w w' := by
  have T0 := Lib.hid ((Below.refl w.heap.size w).alloc (Nat.le_refl _) (.cells #[.int .i64 k, .int .i64 u, .int .i64 v, .int .u64 x] 25))
  have D1 := Lib.hid (shown_any (w.alloc (.cells #[.int .i64 k, .int .i64 u, .int .i64 v, .int .u64 x] 25)))
  have d1 : decide ((40 : Int) < (n : Int)) = true := by simp; omega
  have d2 : decide (40 < n) = true := by simp; omega
  go_enter Try.func6, Try.ntmps6
  go_wp2_with (go_at_call 8; ((with_reducible refine D1.out.mono ?_); rintro e w1 ⟨rfl, hb⟩; have H1 := Lib.hid (T0.out.trans (hb.mono T0.out.size)); clear hb))
  go_ret
  exact ⟨rfl, H1.out⟩
set_option maxRecDepth 100000 in
theorem counts_wrong (A : Option Addr) (c n : Nat) (g : List Arc) (k u v x : Int) (w : World) (hn : n = g.length) (hl : Arcs w A g) (h40 : n ≤ 40) (hr : rightB g = false) : Calls Try.prog 6 #[.slice A n c, .agg #[.int .i64 k, .int .i64 u, .int .i64 v, .int .u64 x]] w fun e w' => e = .returned (.bool true) ∧ Below w.heap.size w w' := by
  have T0 := Lib.hid ((Below.refl w.heap.size w).alloc (Nat.le_refl _) (.cells #[.int .i64 k, .int .i64 u, .int .i64 v, .int .u64 x] 25))
  have D1 := Lib.hid (shown_any (w.alloc (.cells #[.int .i64 k, .int .i64 u, .int .i64 v, .int .u64 x] 25)))
  have d1 : decide ((40 : Int) < (n : Int)) = false := by simp; omega
  have d2 : decide (40 < n) = false := by simp; omega
  have HR : Hid (∀ W, Below w.heap.size w W → Calls Try.prog 9 #[.slice A n c] W fun e w' => e = .returned (.bool false) ∧ Below W.heap.size W w') := Lib.hid (fun W hW => right_eq c hn (hl.below hW (Nat.le_refl _)) (by omega) hr)
  clear hl hr hn
  go_enter Try.func6, Try.ntmps6
  go_wp2_with (first
    | (go_at_call 8; ((with_reducible refine D1.out.mono ?_); rintro e w1 ⟨rfl, hb⟩; have H1 := Lib.hid (T0.out.trans (hb.mono T0.out.size)); have D2 := Lib.hid (HR.out _ H1.out); clear hb))
    | (go_at_call 9; ((with_reducible refine D2.out.mono ?_); rintro e w2 ⟨rfl, hb⟩; have H2 := Lib.hid (H1.out.trans (hb.mono H1.out.size)); clear hb)))
  go_ret
  exact ⟨rfl, H2.out⟩
set_option maxHeartbeats 16000000 in
set_option maxRecDepth 100000 in
theorem counts_full (A : Option Addr) (c n nh : Nat) (g h : List Arc) (a : Ans) (k u v x : Int) (w : World) (hn : n = g.length) (hl : Arcs w A g) (h40 : n ≤ 40) (hr : rightB g = true) (hnh : nh ≤ n + 1)
    (F1 : Hid (∀ W B, Arcs W B g → Calls Try.prog 10 #[.slice B n c, .agg #[.int .i64 k, .int .i64 u, .int .i64 v, .int .u64 x]] W fun e w' => ∃ B d C f, e = .returned (.tuple #[.slice B nh d, .agg #[.int .i64 a.err, .bool a.is, .int .i64 a.n, .int .u64 a.w, .slice C a.list.length f]]) ∧ Arcs w' B h ∧ Sl w' C (a.list.map (Value.int .i64)) ∧ Below W.heap.size W w'))
    (hfin : (k = 12 ∧ a.err = 0 ∧ nh + touches g u = n ∧ a.is = decide (0 < touches g u)) ∨ (k = 12 ∧ a.err = 4 ∧ n ≤ nh) ∨ (k = 15 ∧ nh = n) ∨ (k = 15 ∧ nh + 1 = n) ∨ (k ≠ 12 ∧ k ≠ 15 ∧ n ≤ nh)) :
    Calls Try.prog 6 #[.slice A n c, .agg #[.int .i64 k, .int .i64 u, .int .i64 v, .int .u64 x]] w fun e w' => e = .returned (.bool true) ∧ Below w.heap.size w w' := by
  have T0 := Lib.hid ((Below.refl w.heap.size w).alloc (Nat.le_refl _) (.cells #[.int .i64 k, .int .i64 u, .int .i64 v, .int .u64 x] 25))
  have G0 := Lib.hid (hl.below T0.out (Nat.le_refl _))
  have O0 := Lib.hid (opc_new w k u v x)
  have D1 := Lib.hid (shown_any (w.alloc (.cells #[.int .i64 k, .int .i64 u, .int .i64 v, .int .u64 x] 25)))
  have d1 : decide ((40 : Int) < (n : Int)) = false := by simp; omega
  have d2 : decide (40 < n) = false := by simp; omega
  have HN := Lib.hid hn
  have H40 := Lib.hid (show g.length ≤ 999 from by omega)
  have HR := Lib.hid hr
  have HF := Lib.hid hfin
  clear hl hr hn hfin
  go_enter Try.func6, Try.ntmps6
  go_wp2_with (first
    | (go_at_call 8; ((with_reducible refine D1.out.mono ?_); rintro e w1 ⟨rfl, hb⟩; have G1 := Lib.hid (G0.out.below hb (Nat.le_refl _)); have O1 := Lib.hid (O0.out.below hb (Nat.le_refl _)); have T1 := Lib.hid (T0.out.trans (hb.mono T0.out.size)); have D2 := Lib.hid (right_eq c HN.out G1.out H40.out HR.out); clear hb))
    | (go_at_call 9; ((with_reducible refine D2.out.mono ?_); rintro e w2 ⟨rfl, hb⟩; have G2 := Lib.hid (G1.out.below hb (Nat.le_refl _)); have O2 := Lib.hid (O1.out.below hb (Nat.le_refl _)); have T2 := Lib.hid (T1.out.trans (hb.mono T1.out.size)); obtain ⟨q0, q1, q2, q3⟩ := O2.out; have D3 := Lib.hid (F1.out _ _ G2.out); clear hb))
    | (go_at_call 10; ((with_reducible refine D3.out.mono ?_); rintro e w3 ⟨B3, d3, C3, f3, rfl, hr, hs, hb⟩; have Y := Lib.hid (show Below w2.heap.size w2 (w3.alloc (.cells #[.int .i64 a.err, .bool a.is, .int .i64 a.n, .int .u64 a.w, .slice C3 a.list.length f3] 31)) from hb.alloc hb.size _); have G3 := Lib.hid (G2.out.below Y.out (Nat.le_refl _)); have O3 := Lib.hid (O2.out.below Y.out (Nat.le_refl _)); have T3 := Lib.hid (T2.out.trans (Y.out.mono T2.out.size)); have KA3 := Lib.hid (show Cell (w3.alloc (.cells #[.int .i64 a.err, .bool a.is, .int .i64 a.n, .int .u64 a.w, .slice C3 a.list.length f3] 31)) w3.heap.size 0 (.int .i64 a.err) from Cell.new rfl); have KB3 := Lib.hid (show Cell (w3.alloc (.cells #[.int .i64 a.err, .bool a.is, .int .i64 a.n, .int .u64 a.w, .slice C3 a.list.length f3] 31)) w3.heap.size 1 (.bool a.is) from Cell.new rfl); clear Y hb hr hs q0 q1 q2 q3)))
  have W3 := Lib.hid (Below.refl (w3.alloc (.cells #[.int .i64 a.err, .bool a.is, .int .i64 a.n, .int .u64 a.w, .slice C3 a.list.length f3] 31)).heap.size (w3.alloc (.cells #[.int .i64 a.err, .bool a.is, .int .i64 a.n, .int .u64 a.w, .slice C3 a.list.length f3] 31)))
  go_loopw [8, 9, 10] (fun p q j wr => ∃ i : Nat, i ≤ n ∧ p = .int .i64 (touches (g.take i) u : Nat) ∧ q = .int .i64 ((near (g.take i) u).length : Nat) ∧ j = .int .i64 i ∧ Below (w3.alloc (.cells #[.int .i64 a.err, .bool a.is, .int .i64 a.n, .int .u64 a.w, .slice C3 a.list.length f3] 31)).heap.size (w3.alloc (.cells #[.int .i64 a.err, .bool a.is, .int .i64 a.n, .int .u64 a.w, .slice C3 a.list.length f3] 31)) wr) (fun _ _ j _ => n - (intOf j).toNat)
  case atStart => exact ⟨0, Nat.zero_le _, rfl, rfl, rfl, Below.refl _ _⟩
  case round =>
    obtain ⟨i, hi, rfl, rfl, rfl, hb⟩ := hrel
    have HB := Lib.hid hb
    have G4 := Lib.hid (G3.out.below hb (Nat.le_refl _))
    have T4 := Lib.hid (T3.out.trans (hb.mono T3.out.size))
    have KA4 := Lib.hid (KA3.out.later hb)
    have KB4 := Lib.hid (KB3.out.later hb)
    obtain ⟨q0, q1, q2, q3⟩ := O3.out.below hb (Nat.le_refl _)
    clear hb
    have p1 : touches (g.take i) u ≤ 40 := Nat.le_trans (touches_le _ _) (by rw [List.length_take]; omega)
    have p2 : (near (g.take i) u).length ≤ 40 := Nat.le_trans (near_le _ _) (by rw [List.length_take]; omega)
    by_cases hlt : i < n
    · have hlt' : i < g.length := by rw [← HN.out]; exact hlt
      obtain ⟨b, off, hA, hcs⟩ := G4.out.2.2 (by omega)
      subst hA
      obtain ⟨c1, c2, c3⟩ := hcs i g[i] (List.getElem?_eq_getElem hlt')
      clear hcs
      obtain ⟨⟨au, av, aw⟩, hgi⟩ : ∃ r, g[i] = r := ⟨_, rfl⟩
      rw [hgi] at c1 c2 c3
      simp only at c1 c2 c3
      have i0 : (0 : Int) ≤ (i : Int) := by omega
      have i1 : (i : Int) < (n : Int) := by omega
      have NT := Lib.hid (touch_next (u := u) hlt')
      have NN := Lib.hid (near_len_next (u := u) hlt')
      rw [hgi] at NT NN
      clear hgi
      generalize touches (g.take i) u = p at p1 NT ⊢
      generalize (near (g.take i) u).length = q at p2 NN ⊢
      have n1 : IntKind.i64.wrap ((p : Int) + 1) = (p : Int) + 1 := by rw [IntKind.wrap_i64] <;> omega
      have n2 : IntKind.i64.wrap ((q : Int) + 1) = (q : Int) + 1 := by rw [IntKind.wrap_i64] <;> omega
      have n3 : IntKind.i64.wrap ((i : Int) + 1) = (i : Int) + 1 := by rw [IntKind.wrap_i64] <;> omega
      by_cases hu : au = u
      · have hu2 := hu.symm
        clear hu
        subst hu2
        by_cases hv : 0 ≤ av
        · have g1 : decide (0 ≤ av) = true := decide_eq_true hv
          have E1 := Lib.hid (show touches (g.take (i + 1)) u = p + 1 from by rw [NT.out, show touch u ⟨u, av, aw⟩ = true from decide_eq_true (.inl rfl)]; rfl)
          have E2 := Lib.hid (show (near (g.take (i + 1)) u).length = q + 1 from by rw [NN.out, show isNear u ⟨u, av, aw⟩ = true from decide_eq_true ⟨rfl, hv⟩]; rfl)
          clear NT NN
          go_wp2
          go_quiet (fail)
          go_wp2
          go_quiet (fail)
          go_wp2
          go_roundw
          case rel => exact ⟨i + 1, by omega, by rw [E1.out]; rfl, by rw [E2.out]; rfl, by go_num, below_drewN HB.out _⟩
          case measure => simp [intOf]; omega
        · have g1 : decide (0 ≤ av) = false := decide_eq_false hv
          have E1 := Lib.hid (show touches (g.take (i + 1)) u = p + 1 from by rw [NT.out, show touch u ⟨u, av, aw⟩ = true from decide_eq_true (.inl rfl)]; rfl)
          have E2 := Lib.hid (show (near (g.take (i + 1)) u).length = q + 0 from by rw [NN.out, show isNear u ⟨u, av, aw⟩ = false from decide_eq_false (fun z => hv z.2)]; rfl)
          clear NT NN
          go_wp2
          go_quiet (fail)
          go_wp2
          go_quiet (fail)
          go_wp2
          go_roundw
          case rel => exact ⟨i + 1, by omega, by rw [E1.out]; rfl, by rw [E2.out]; rfl, by go_num, below_drewN HB.out _⟩
          case measure => simp [intOf]; omega
      · have g0 : (au == u) = false := by simpa using hu
        by_cases hw : av = u
        · have hw2 := hw.symm
          clear hw
          subst hw2
          by_cases hv : 0 ≤ u
          · have g1 : decide (0 ≤ u) = true := decide_eq_true hv
            have E1 := Lib.hid (show touches (g.take (i + 1)) u = p + 1 from by rw [NT.out, show touch u ⟨au, u, aw⟩ = true from decide_eq_true (.inr ⟨rfl, hv⟩)]; rfl)
            have E2 := Lib.hid (show (near (g.take (i + 1)) u).length = q + 0 from by rw [NN.out, show isNear u ⟨au, u, aw⟩ = false from decide_eq_false (fun z => hu z.1)]; rfl)
            clear NT NN
            go_wp2
            go_quiet (fail)
            go_wp2
            go_quiet (fail)
            go_wp2
            go_roundw
            case rel => exact ⟨i + 1, by omega, by rw [E1.out]; rfl, by rw [E2.out]; rfl, by go_num, below_drewN HB.out _⟩
            case measure => simp [intOf]; omega
          · have g1 : decide (0 ≤ u) = false := decide_eq_false hv
            have E1 := Lib.hid (show touches (g.take (i + 1)) u = p + 0 from by rw [NT.out, show touch u ⟨au, u, aw⟩ = false from decide_eq_false (fun z => by rcases z with z | z; exact hu z; exact hv z.2)]; rfl)
            have E2 := Lib.hid (show (near (g.take (i + 1)) u).length = q + 0 from by rw [NN.out, show isNear u ⟨au, u, aw⟩ = false from decide_eq_false (fun z => hu z.1)]; rfl)
            clear NT NN
            go_wp2
            go_quiet (fail)
            go_wp2
            go_quiet (fail)
            go_wp2
            go_roundw
            case rel => exact ⟨i + 1, by omega, by rw [E1.out]; rfl, by rw [E2.out]; rfl, by go_num, below_drewN HB.out _⟩
            case measure => simp [intOf]; omega
        · have g2 : (av == u) = false := by simpa using hw
          have E1 := Lib.hid (show touches (g.take (i + 1)) u = p + 0 from by rw [NT.out, show touch u ⟨au, av, aw⟩ = false from decide_eq_false (fun z => by rcases z with z | z; exact hu z; exact hw z.1)]; rfl)
          have E2 := Lib.hid (show (near (g.take (i + 1)) u).length = q + 0 from by rw [NN.out, show isNear u ⟨au, av, aw⟩ = false from decide_eq_false (fun z => hu z.1)]; rfl)
          clear NT NN
          go_wp2
          go_quiet (fail)
          go_wp2
          go_quiet (fail)
          go_wp2
          go_roundw
          case rel => exact ⟨i + 1, by omega, by rw [E1.out]; rfl, by rw [E2.out]; rfl, by go_num, below_drewN HB.out _⟩
          case measure => simp [intOf]; omega
    · obtain rfl : i = n := by omega
      rw [List.take_of_length_le (by rw [HN.out]; exact Nat.le_refl _)] at p1 p2 ⊢
      have DN := Lib.hid (near_eq (u := u) c HN.out G4.out H40.out rfl)
      generalize (near g u).length = q at p2 DN ⊢
      have m1 : decide ((i : Int) + 1 < (nh : Int)) = false := by simp; omega
      have m2 : IntKind.i64.wrap ((i : Int) + 1) = (i : Int) + 1 := by rw [IntKind.wrap_i64] <;> omega
      have ka := KA4.out.at
      have kb := KB4.out.at
      have NH := Lib.hid hnh
      clear hnh
      rcases HF.out with ⟨rfl, e1, e2, e3⟩ | ⟨rfl, e1, e2⟩ | ⟨rfl, e1⟩ | ⟨rfl, e1⟩ | ⟨e1, e2, e3⟩
      · rw [e1] at KA4 ka
        rw [e3] at KB4 kb
        generalize touches g u = p at p1 e2 e3 KB4 kb HF ⊢
        obtain rfl : i = nh + p := by omega
        have n1 : IntKind.i64.wrap (((nh + p : Nat) : Int) - (p : Int)) = (nh : Int) := by rw [IntKind.wrap_i64] <;> omega
        have n1' : IntKind.i64.wrap ((nh : Int) + (p : Int) - (p : Int)) = (nh : Int) := by rw [IntKind.wrap_i64] <;> omega
        have n1'' : (nh : Int) + (p : Int) - (p : Int) = (nh : Int) := by omega
        have NHw : IntKind.i64.wrap (nh : Int) = (nh : Int) := by rw [IntKind.wrap_i64] <;> omega
        clear e1 e2 e3 HF
        by_cases hp : 0 < p
        · have g1 : decide ((0 : Int) < (p : Int)) = true := by simp; omega
          have g2 : decide (0 < p) = true := decide_eq_true hp
          rw [decide_eq_true hp] at KB4 kb
          clear hp
          go_wp2_with (go_at_call 15; ((with_reducible refine DN.out.mono ?_); rintro e w5 ⟨B5, d5, rfl, hb⟩; have T5 := Lib.hid (T4.out.trans (hb.mono T4.out.size)); have ka5 := (KA4.out.later hb).at; have kb5 := (KB4.out.later hb).at; have q05 := (hb.cell (p := ⟨w.heap.size, 0, none⟩) (World.block_lt_of_cell? _ _ q0)).trans q0; clear hb))
          go_ret
          exact ⟨rfl, T5.out⟩
        · have g1 : decide ((0 : Int) < (p : Int)) = false := by simp; omega
          have g2 : decide (0 < p) = false := decide_eq_false hp
          rw [decide_eq_false hp] at KB4 kb
          clear hp
          go_wp2_with (go_at_call 15; ((with_reducible refine DN.out.mono ?_); rintro e w5 ⟨B5, d5, rfl, hb⟩; have T5 := Lib.hid (T4.out.trans (hb.mono T4.out.size)); have ka5 := (KA4.out.later hb).at; have kb5 := (KB4.out.later hb).at; have q05 := (hb.cell (p := ⟨w.heap.size, 0, none⟩) (World.block_lt_of_cell? _ _ q0)).trans q0; clear hb))
          go_ret
          exact ⟨rfl, T5.out⟩
      · rw [e1] at KA4 ka
        have g1 : decide ((i : Int) ≤ (nh : Int)) = true := by simp; omega
        have g2 : decide (i ≤ nh) = true := by simp; omega
        clear e1 e2 HF
        go_wp2_with (go_at_call 15; ((with_reducible refine DN.out.mono ?_); rintro e w5 ⟨B5, d5, rfl, hb⟩; have T5 := Lib.hid (T4.out.trans (hb.mono T4.out.size)); have ka5 := (KA4.out.later hb).at; have kb5 := (KB4.out.later hb).at; have q05 := (hb.cell (p := ⟨w.heap.size, 0, none⟩) (World.block_lt_of_cell? _ _ q0)).trans q0; clear hb))
        go_ret
        exact ⟨rfl, T5.out⟩
      · subst e1
        clear HF
        go_wp2_with (go_at_call 15; ((with_reducible refine DN.out.mono ?_); rintro e w5 ⟨B5, d5, rfl, hb⟩; have T5 := Lib.hid (T4.out.trans (hb.mono T4.out.size)); have ka5 := (KA4.out.later hb).at; have kb5 := (KB4.out.later hb).at; have q05 := (hb.cell (p := ⟨w.heap.size, 0, none⟩) (World.block_lt_of_cell? _ _ q0)).trans q0; clear hb))
        go_ret
        exact ⟨rfl, T5.out⟩
      · obtain rfl : i = nh + 1 := e1.symm
        have n1 : IntKind.i64.wrap ((nh : Int) + 1 - 1) = (nh : Int) := by rw [IntKind.wrap_i64] <;> omega
        have NHw : IntKind.i64.wrap (nh : Int) = (nh : Int) := by rw [IntKind.wrap_i64] <;> omega
        have g1 : ((nh : Int) == (nh : Int) + 1) = false := by simp; omega
        clear e1 HF
        go_wp2_with (go_at_call 15; ((with_reducible refine DN.out.mono ?_); rintro e w5 ⟨B5, d5, rfl, hb⟩; have T5 := Lib.hid (T4.out.trans (hb.mono T4.out.size)); have ka5 := (KA4.out.later hb).at; have kb5 := (KB4.out.later hb).at; have q05 := (hb.cell (p := ⟨w.heap.size, 0, none⟩) (World.block_lt_of_cell? _ _ q0)).trans q0; clear hb))
        go_ret
        exact ⟨rfl, T5.out⟩
      · have k1 : (k == 12) = false := by simpa using e1
        have k2 : (k == 15) = false := by simpa using e2
        have g1 : decide ((i : Int) ≤ (nh : Int)) = true := by simp; omega
        have g2 : decide (i ≤ nh) = true := by simp; omega
        clear e3 HF
        go_wp2_with (go_at_call 15; ((with_reducible refine DN.out.mono ?_); rintro e w5 ⟨B5, d5, rfl, hb⟩; have T5 := Lib.hid (T4.out.trans (hb.mono T4.out.size)); have ka5 := (KA4.out.later hb).at; have kb5 := (KB4.out.later hb).at; have q05 := (hb.cell (p := ⟨w.heap.size, 0, none⟩) (World.block_lt_of_cell? _ _ q0)).trans q0; clear hb))
        go_ret
        exact ⟨rfl, T5.out⟩
theorem counts_any (A : Option Addr) (c n : Nat) (g : List Arc) (o : Op) (w : World) (hn : n = g.length) (hl : Arcs w A g) (ho : o.Fine) : Calls Try.prog 6 #[.slice A n c, .agg #[.int .i64 o.k, .int .i64 o.u, .int .i64 o.v, .int .u64 o.w]] w fun e w' => e = .returned (.bool true) ∧ Below w.heap.size w w' := by
  by_cases h : 40 < n
  · exact counts_long A c n _ _ _ _ w h
  have h40 : n ≤ 40 := by omega
  cases hr : rightB g
  · exact counts_wrong A c n g _ _ _ _ w hn hl h40 hr
  have hR := R.ofB hr
  have hlen := len_do g o
  refine counts_full A c n (doG g o).length g (doG g o) (doA g o) o.k o.u o.v o.w w hn hl h40 hr (by omega) (Lib.hid fun W B hB => do_eq c hn hB hR.rises (by omega) ho rfl rfl rfl) ?_
  by_cases k12 : o.k = 12
  · by_cases hf : Fit o
    · refine .inl ⟨k12, by rw [doA_12 hf (.inl k12)], by rw [remv_len hf k12, hn], ?_⟩
      rw [doA_12 hf (.inl k12)]
      exact touch_in hR hf.u
    · refine .inr (.inl ⟨k12, ?_, by rw [doG_bad hf]; omega⟩)
      have hk : keysB o = false := by
        cases hk : keysB o
        · rfl
        · exact absurd ⟨by omega, by omega, hk⟩ hf
      rw [doA_key (by omega) (by omega) hk]
  · by_cases k15 : o.k = 15
    · rcases reme_len hR.rises o k15 with q | q
      · exact .inr (.inr (.inl ⟨k15, by omega⟩))
      · exact .inr (.inr (.inr (.inl ⟨k15, by omega⟩)))
    · refine .inr (.inr (.inr (.inr ⟨k12, k15, ?_⟩)))
      rw [hn]
      exact grow_len (fun q => k12 q.1) k15
end Go.Proofs.Ytmlcghbhkpbaeaa
