/- GraphOwn: the walk. -/
import Derived.Test.YtmlcghbhkpbaeaaUse
namespace Go.Proofs.Ytmlcghbhkpbaeaa
open Go.RowKit Aid

theorem own_long (A : Option Addr) (c n : Nat) (u x : Int) (w : World) (h : 40 < n) : Calls Try.prog 7 #[.slice A n c, .int .i64 u, .int .u64 x] w fun e w' => e = .returned (.bool true) ∧ Below w.heap.size w w' := by
  have D1 := Lib.hid (shown_any w)
  have d1 : decide ((40 : Int) < (n : Int)) = true := by simp; omega
  have d2 : decide (40 < n) = true := by simp; omega
  go_enter Try.func7, Try.ntmps7
  go_wp2_with (go_at_call 8; ((with_reducible refine D1.out.mono ?_); rintro e w1 ⟨rfl, hb⟩; have H1 := Lib.hid hb; clear hb))
  go_ret
  exact ⟨rfl, H1.out⟩
theorem own_wrong (A : Option Addr) (c n : Nat) (g : List Arc) (u x : Int) (w : World) (hn : n = g.length) (hl : Arcs w A g) (h40 : n ≤ 40) (hr : rightB g = false) : Calls Try.prog 7 #[.slice A n c, .int .i64 u, .int .u64 x] w fun e w' => e = .returned (.bool true) ∧ Below w.heap.size w w' := by
  have D1 := Lib.hid (shown_any w)
  have d1 : decide ((40 : Int) < (n : Int)) = false := by simp; omega
  have d2 : decide (40 < n) = false := by simp; omega
  have G0 := Lib.hid hl
  have HR : Hid (∀ W, Below w.heap.size w W → Calls Try.prog 9 #[.slice A n c] W fun e w' => e = .returned (.bool false) ∧ Below W.heap.size W w') := Lib.hid (fun W hW => right_eq c hn (hl.below hW (Nat.le_refl _)) (by omega) hr)
  clear hl hr hn
  go_enter Try.func7, Try.ntmps7
  go_wp2_with (first
    | (go_at_call 8; ((with_reducible refine D1.out.mono ?_); rintro e w1 ⟨rfl, hb⟩; have H1 := Lib.hid hb; have D2 := Lib.hid (HR.out _ hb); clear hb))
    | (go_at_call 9; ((with_reducible refine D2.out.mono ?_); rintro e w2 ⟨rfl, hb⟩; have H2 := Lib.hid (H1.out.trans (hb.mono H1.out.size)); clear hb)))
  go_ret
  exact ⟨rfl, H2.out⟩
theorem own_none (A : Option Addr) (c n : Nat) (g : List Arc) (u x : Int) (w : World) (hn : n = g.length) (hl : Arcs w A g) (h40 : n ≤ 40) (hr : rightB g = true) (hi : inB g u = false) : Calls Try.prog 7 #[.slice A n c, .int .i64 u, .int .u64 x] w fun e w' => e = .returned (.bool true) ∧ Below w.heap.size w w' := by
  have D1 := Lib.hid (shown_any w)
  have d1 : decide ((40 : Int) < (n : Int)) = false := by simp; omega
  have d2 : decide (40 < n) = false := by simp; omega
  have HR : Hid (∀ W, Below w.heap.size w W → Calls Try.prog 9 #[.slice A n c] W fun e w' => e = .returned (.bool true) ∧ Below W.heap.size W w') := Lib.hid (fun W hW => right_eq c hn (hl.below hW (Nat.le_refl _)) (by omega) hr)
  have HI : Hid (∀ W, Below w.heap.size w W → Calls Try.prog 16 #[.slice A n c, .int .i64 u] W fun e w' => e = .returned (.bool false) ∧ W = w') := Lib.hid (fun W hW => in_eq c hn (hl.below hW (Nat.le_refl _)) hi)
  clear hl hr hi hn
  go_enter Try.func7, Try.ntmps7
  go_wp2_with (first
    | (go_at_call 8; ((with_reducible refine D1.out.mono ?_); rintro e w1 ⟨rfl, hb⟩; have H1 := Lib.hid hb; have D2 := Lib.hid (HR.out _ hb); clear hb))
    | (go_at_call 9; ((with_reducible refine D2.out.mono ?_); rintro e w2 ⟨rfl, hb⟩; have H2 := Lib.hid (H1.out.trans (hb.mono H1.out.size)); have D3 := Lib.hid (HI.out _ H2.out); clear hb))
    | (go_at_call 16; ((with_reducible refine D3.out.mono ?_); rintro e w3 ⟨rfl, rfl⟩)))
  go_ret
  exact ⟨rfl, H2.out⟩
theorem same_self (l : List Arc) : sameB l l = true := decide_eq_true rfl
set_option maxHeartbeats 8000000 in
set_option maxRecDepth 100000 in
theorem own_full (A : Option Addr) (c n : Nat) (g la lb lx : List Arc) (na nx : Nat) (aA aC aX aY : Ans) (u x : Int) (w : World) (hn : n = g.length) (hl : Arcs w A g) (h40 : n ≤ 40) (hna : na ≤ 41)
    (hr : rightB g = true) (hi : inB g u = true)
    (F1 : Hid (∀ W B, Arcs W B g → Calls Try.prog 10 #[.slice B n c, .agg #[.int .i64 15, .int .i64 u, .int .i64 u, .int .u64 0]] W fun e w' => ∃ B d C f, e = .returned (.tuple #[.slice B na d, .agg #[.int .i64 aA.err, .bool aA.is, .int .i64 aA.n, .int .u64 aA.w, .slice C aA.list.length f]]) ∧ Arcs w' B la ∧ Sl w' C (aA.list.map (Value.int .i64)) ∧ Below W.heap.size W w'))
    (F2 : Hid (∀ W B d, Arcs W B la → Calls Try.prog 10 #[.slice B na d, .agg #[.int .i64 14, .int .i64 u, .int .i64 u, .int .u64 x]] W fun e w' => ∃ B d C f, e = .returned (.tuple #[.slice B (na + 1 : Nat) d, .agg #[.int .i64 0, .bool false, .int .i64 0, .int .u64 0, .slice C 0 f]]) ∧ Arcs w' B lb ∧ Sl w' C (([] : List Int).map (Value.int .i64)) ∧ Below W.heap.size W w'))
    (F3 : Hid (∀ W B d, Arcs W B lb → Calls Try.prog 14 #[.slice B (na + 1 : Nat) d, .int .i64 u, .int .i64 u] W fun e w' => e = .returned (.tuple #[.int .u64 x, .bool true]) ∧ Below W.heap.size W w'))
    (F4 : Hid (∀ W B d, Arcs W B lb → Calls Try.prog 10 #[.slice B (na + 1 : Nat) d, .agg #[.int .i64 15, .int .i64 u, .int .i64 u, .int .u64 0]] W fun e w' => ∃ B d C f, e = .returned (.tuple #[.slice B na d, .agg #[.int .i64 aC.err, .bool aC.is, .int .i64 aC.n, .int .u64 aC.w, .slice C aC.list.length f]]) ∧ Arcs w' B la ∧ Sl w' C (aC.list.map (Value.int .i64)) ∧ Below W.heap.size W w'))
    (F5 : Hid (∀ W B d, Arcs W B lb → Calls Try.prog 10 #[.slice B (na + 1 : Nat) d, .agg #[.int .i64 12, .int .i64 u, .int .i64 0, .int .u64 0]] W fun e w' => ∃ B d C f, e = .returned (.tuple #[.slice B nx d, .agg #[.int .i64 aX.err, .bool aX.is, .int .i64 aX.n, .int .u64 aX.w, .slice C aX.list.length f]]) ∧ Arcs w' B lx ∧ Sl w' C (aX.list.map (Value.int .i64)) ∧ Below W.heap.size W w'))
    (F6 : Hid (∀ W B d, Arcs W B la → Calls Try.prog 10 #[.slice B na d, .agg #[.int .i64 12, .int .i64 u, .int .i64 0, .int .u64 0]] W fun e w' => ∃ B d C f, e = .returned (.tuple #[.slice B nx d, .agg #[.int .i64 aY.err, .bool aY.is, .int .i64 aY.n, .int .u64 aY.w, .slice C aY.list.length f]]) ∧ Arcs w' B lx ∧ Sl w' C (aY.list.map (Value.int .i64)) ∧ Below W.heap.size W w'))
    (hla : na = la.length) (hlx : nx = lx.length) (hx40 : nx ≤ 41) : Calls Try.prog 7 #[.slice A n c, .int .i64 u, .int .u64 x] w fun e w' => e = .returned (.bool true) ∧ Below w.heap.size w w' := by
  have D1 := Lib.hid (shown_any w)
  have d1 : decide ((40 : Int) < (n : Int)) = false := by simp; omega
  have d2 : decide (40 < n) = false := by simp; omega
  have HN := Lib.hid hn
  have NA := Lib.hid hla
  have NX := Lib.hid hlx
  have H40 := Lib.hid (show g.length ≤ 999 from by omega)
  have HLA := Lib.hid (show la.length ≤ 999 from by omega)
  have HLX := Lib.hid (show lx.length ≤ 999 from by omega)
  have HR := Lib.hid hr
  have HI := Lib.hid hi
  have SLL := Lib.hid (same_self la)
  have SXX := Lib.hid (same_self lx)
  have G0 := Lib.hid hl
  have T0 := Lib.hid (Below.refl w.heap.size w)
  have n1 : IntKind.i64.wrap ((na : Int) + 1) = (na : Int) + 1 := by rw [IntKind.wrap_i64] <;> omega
  clear hl hr hi hn hla hlx
  go_enter Try.func7, Try.ntmps7
  go_wp2_with (first
    | (go_at_call 8; ((with_reducible refine D1.out.mono ?_); rintro e w1 ⟨rfl, hb⟩; have G1 := Lib.hid (G0.out.below hb (Nat.le_refl _)); have T1 := Lib.hid (T0.out.trans (hb.mono T0.out.size)); have D2 := Lib.hid (right_eq c HN.out G1.out H40.out HR.out); clear hb))
    | (go_at_call 9; ((with_reducible refine D2.out.mono ?_); rintro e w2 ⟨rfl, hb⟩; have G2 := Lib.hid (G1.out.below hb (Nat.le_refl _)); have T2 := Lib.hid (T1.out.trans (hb.mono T1.out.size)); have D3 := Lib.hid (in_eq c HN.out G2.out HI.out); clear hb))
    | (go_at_call 16; ((with_reducible refine D3.out.mono ?_); rintro e w3 ⟨rfl, rfl⟩; have G3 := G2; have T3 := T2; have D4 := Lib.hid (F1.out _ _ G3.out)))
    | (go_at_call 10; ((with_reducible refine D4.out.mono ?_); rintro e w4 ⟨B4, d4, C4, f4, rfl, hr, _, hb⟩; have Y := Lib.hid (show Below w2.heap.size w2 (w4.alloc (.cells #[.int .i64 aA.err, .bool aA.is, .int .i64 aA.n, .int .u64 aA.w, .slice C4 aA.list.length f4] 31)) from hb.alloc hb.size _); have G4 := Lib.hid (G3.out.below Y.out (Nat.le_refl _)); have T4 := Lib.hid (T3.out.trans (Y.out.mono T3.out.size)); have L4 := Lib.hid (hr.below ((Below.refl w4.heap.size w4).alloc (Nat.le_refl _) (.cells #[.int .i64 aA.err, .bool aA.is, .int .i64 aA.n, .int .u64 aA.w, .slice C4 aA.list.length f4] 31)) (Nat.le_refl _)); have D5 := Lib.hid (F2.out (w4.alloc (.cells #[.int .i64 aA.err, .bool aA.is, .int .i64 aA.n, .int .u64 aA.w, .slice C4 aA.list.length f4] 31)) _ d4 L4.out); clear Y hb hr))
    | (go_at_call 10; ((with_reducible refine D5.out.mono ?_); rintro e w5 ⟨B5, d5, C5, f5, rfl, hr, _, hb⟩; have Y := Lib.hid (show Below (w4.alloc (.cells #[.int .i64 aA.err, .bool aA.is, .int .i64 aA.n, .int .u64 aA.w, .slice C4 aA.list.length f4] 31)).heap.size (w4.alloc (.cells #[.int .i64 aA.err, .bool aA.is, .int .i64 aA.n, .int .u64 aA.w, .slice C4 aA.list.length f4] 31)) (w5.alloc (.cells #[.int .i64 0, .bool false, .int .i64 0, .int .u64 0, .slice C5 0 f5] 31)) from hb.alloc hb.size _); have T5 := Lib.hid (T4.out.trans (Y.out.mono T4.out.size)); have L5 := Lib.hid (L4.out.below Y.out (Nat.le_refl _)); have M5 := Lib.hid (hr.below ((Below.refl w5.heap.size w5).alloc (Nat.le_refl _) (.cells #[.int .i64 0, .bool false, .int .i64 0, .int .u64 0, .slice C5 0 f5] 31)) (Nat.le_refl _)); have K5 := Lib.hid (show Cell (w5.alloc (.cells #[.int .i64 0, .bool false, .int .i64 0, .int .u64 0, .slice C5 0 f5] 31)) w5.heap.size 0 (.int .i64 0) from Cell.new rfl); have D6 := Lib.hid (F3.out (w5.alloc (.cells #[.int .i64 0, .bool false, .int .i64 0, .int .u64 0, .slice C5 0 f5] 31)) _ d5 M5.out); clear Y hb hr))
    | (go_at_call 14; ((with_reducible refine D6.out.mono ?_); rintro e w6 ⟨rfl, hb⟩; have T6 := Lib.hid (T5.out.trans (hb.mono T5.out.size)); have L6 := Lib.hid (L5.out.below hb (Nat.le_refl _)); have M6 := Lib.hid (M5.out.below hb (Nat.le_refl _)); have K6 := Lib.hid (K5.out.later hb); have D7 := Lib.hid (F4.out w6 _ d5 M6.out); clear hb))
    | (go_at_call 10; ((with_reducible refine D7.out.mono ?_); rintro e w7 ⟨B7, d7, C7, f7, rfl, hr, _, hb⟩; have Y := Lib.hid (show Below w6.heap.size w6 (w7.alloc (.cells #[.int .i64 aC.err, .bool aC.is, .int .i64 aC.n, .int .u64 aC.w, .slice C7 aC.list.length f7] 31)) from hb.alloc hb.size _); have T7 := Lib.hid (T6.out.trans (Y.out.mono T6.out.size)); have L7 := Lib.hid (L6.out.below Y.out (Nat.le_refl _)); have M7 := Lib.hid (M6.out.below Y.out (Nat.le_refl _)); have K7 := Lib.hid (K6.out.later Y.out); have N7 := Lib.hid (hr.below ((Below.refl w7.heap.size w7).alloc (Nat.le_refl _) (.cells #[.int .i64 aC.err, .bool aC.is, .int .i64 aC.n, .int .u64 aC.w, .slice C7 aC.list.length f7] 31)) (Nat.le_refl _)); have D8 := Lib.hid (F5.out (w7.alloc (.cells #[.int .i64 aC.err, .bool aC.is, .int .i64 aC.n, .int .u64 aC.w, .slice C7 aC.list.length f7] 31)) _ d5 M7.out); clear Y hb hr))
    | (go_at_call 10; ((with_reducible refine D8.out.mono ?_); rintro e w8 ⟨B8, d8, C8, f8, rfl, hr, _, hb⟩; have Y := Lib.hid (show Below (w7.alloc (.cells #[.int .i64 aC.err, .bool aC.is, .int .i64 aC.n, .int .u64 aC.w, .slice C7 aC.list.length f7] 31)).heap.size (w7.alloc (.cells #[.int .i64 aC.err, .bool aC.is, .int .i64 aC.n, .int .u64 aC.w, .slice C7 aC.list.length f7] 31)) (w8.alloc (.cells #[.int .i64 aX.err, .bool aX.is, .int .i64 aX.n, .int .u64 aX.w, .slice C8 aX.list.length f8] 31)) from hb.alloc hb.size _); have T8 := Lib.hid (T7.out.trans (Y.out.mono T7.out.size)); have L8 := Lib.hid (L7.out.below Y.out (Nat.le_refl _)); have M8 := Lib.hid (M7.out.below Y.out (Nat.le_refl _)); have K8 := Lib.hid (K7.out.later Y.out); have N8 := Lib.hid (N7.out.below Y.out (Nat.le_refl _)); have X8 := Lib.hid (hr.below ((Below.refl w8.heap.size w8).alloc (Nat.le_refl _) (.cells #[.int .i64 aX.err, .bool aX.is, .int .i64 aX.n, .int .u64 aX.w, .slice C8 aX.list.length f8] 31)) (Nat.le_refl _)); have D9 := Lib.hid (F6.out (w8.alloc (.cells #[.int .i64 aX.err, .bool aX.is, .int .i64 aX.n, .int .u64 aX.w, .slice C8 aX.list.length f8] 31)) _ d4 L8.out); clear Y hb hr))
    | (go_at_call 10; ((with_reducible refine D9.out.mono ?_); rintro e w9 ⟨B9, d9, C9, f9, rfl, hr, _, hb⟩; have Y := Lib.hid (show Below (w8.alloc (.cells #[.int .i64 aX.err, .bool aX.is, .int .i64 aX.n, .int .u64 aX.w, .slice C8 aX.list.length f8] 31)).heap.size (w8.alloc (.cells #[.int .i64 aX.err, .bool aX.is, .int .i64 aX.n, .int .u64 aX.w, .slice C8 aX.list.length f8] 31)) (w9.alloc (.cells #[.int .i64 aY.err, .bool aY.is, .int .i64 aY.n, .int .u64 aY.w, .slice C9 aY.list.length f9] 31)) from hb.alloc hb.size _); have T9 := Lib.hid (T8.out.trans (Y.out.mono T8.out.size)); have L9 := Lib.hid (L8.out.below Y.out (Nat.le_refl _)); have K9 := Lib.hid (K8.out.later Y.out); have N9 := Lib.hid (N8.out.below Y.out (Nat.le_refl _)); have X9 := Lib.hid (X8.out.below Y.out (Nat.le_refl _)); have Y09 := Lib.hid (hr.below ((Below.refl w9.heap.size w9).alloc (Nat.le_refl _) (.cells #[.int .i64 aY.err, .bool aY.is, .int .i64 aY.n, .int .u64 aY.w, .slice C9 aY.list.length f9] 31)) (Nat.le_refl _)); have k0 := K9.out.at; have D10 := Lib.hid (sameR_eq d7 d4 NA.out NA.out N9.out L9.out HLA.out SLL.out); clear Y hb hr))
    | (go_at_call 11; ((with_reducible refine D10.out.mono ?_); rintro e w10 ⟨rfl, hb⟩; have T10 := Lib.hid (T9.out.trans (hb.mono T9.out.size)); have L10 := Lib.hid (L9.out.below hb (Nat.le_refl _)); have N10 := Lib.hid (N9.out.below hb (Nat.le_refl _)); have X10 := Lib.hid (X9.out.below hb (Nat.le_refl _)); have Y010 := Lib.hid (Y09.out.below hb (Nat.le_refl _)); have D11 := Lib.hid (sameR_eq d8 d9 NX.out NX.out X10.out Y010.out HLX.out SXX.out); clear hb))
    | (go_at_call 11; ((with_reducible refine D11.out.mono ?_); rintro e w11 ⟨rfl, hb⟩; have T11 := Lib.hid (T10.out.trans (hb.mono T10.out.size)); have L11 := Lib.hid (L10.out.below hb (Nat.le_refl _)); have N11 := Lib.hid (N10.out.below hb (Nat.le_refl _)); have X11 := Lib.hid (X10.out.below hb (Nat.le_refl _)); have Y011 := Lib.hid (Y010.out.below hb (Nat.le_refl _)); clear hb)))
  go_ret
  exact ⟨rfl, T11.out⟩
theorem own_any' (A : Option Addr) (c n : Nat) (g : List Arc) (u x : Int) (w : World) (hn : n = g.length) (hl : Arcs w A g) (hx1 : 0 ≤ x) (hx2 : x < 18446744073709551616) : Calls Try.prog 7 #[.slice A n c, .int .i64 u, .int .u64 x] w fun e w' => e = .returned (.bool true) ∧ Below w.heap.size w w' := by
  by_cases h : 40 < n
  · exact own_long A c n u x w h
  · have h40 : n ≤ 40 := by omega
    cases hr : rightB g
    · exact own_wrong A c n g u x w hn hl h40 hr
    · cases hi : inB g u
      · exact own_none A c n g u x w hn hl h40 hr hi
      · have hR := R.ofB hr
        have hV : isV u = true := by
          obtain ⟨a, ha, rfl, _⟩ := inB_iff.1 hi
          exact (hR.row a ha).1
        obtain ⟨v1, v2⟩ := isV_t hV
        have f15 : Fit ⟨15, u, u, 0⟩ := fit_of (by decide) (by decide) hV (fun _ => hV)
        have f14 : Fit ⟨14, u, u, x⟩ := fit_of (by decide) (by decide) hV (fun _ => hV)
        have f12 : Fit ⟨12, u, 0, 0⟩ := fit_of (by decide) (by decide) hV (fun q => by cases q)
        have b0 : both g ⟨15, u, u, 0⟩ = true := both_iff.2 ⟨hi, hi⟩
        have hA := hR.do ⟨15, u, u, 0⟩
        have hB := hA.do ⟨14, u, u, x⟩
        have iA : inB (doG g ⟨15, u, u, 0⟩) u = true := inB_do (o := ⟨15, u, u, 0⟩) hi (fun q => by cases q.1)
        have b1 : both (doG g ⟨15, u, u, 0⟩) ⟨14, u, u, x⟩ = true := both_iff.2 ⟨iA, iA⟩
        have l1 := len_do g ⟨15, u, u, 0⟩
        have l2 := own_len f15 rfl f14 rfl rfl rfl b0 b1
        have l3 := len_do (doG g ⟨15, u, u, 0⟩) ⟨12, u, 0, 0⟩
        have l1' : (doG g ⟨15, u, u, 0⟩).length ≤ g.length := by rw [doG_15 f15 rfl b0]; exact kept_le _ _
        have l3' : (doG (doG g ⟨15, u, u, 0⟩) ⟨12, u, 0, 0⟩).length ≤ (doG g ⟨15, u, u, 0⟩).length := by rw [doG_12 f12 rfl]; exact kept_le _ _
        have e2 : doA (doG g ⟨15, u, u, 0⟩) ⟨14, u, u, x⟩ = ⟨0, false, 0, 0, []⟩ := by rw [doA_14 f14 (.inl rfl), b1]; rfl
        have e3 : hasB (doG (doG g ⟨15, u, u, 0⟩) ⟨14, u, u, x⟩) u u = true := adde_in (o := ⟨14, u, u, x⟩) f14 rfl b1
        have e4 : hasW (doG (doG g ⟨15, u, u, 0⟩) ⟨14, u, u, x⟩) u u = x := by
          have := adde_w hA (o := ⟨14, u, u, x⟩) f14 rfl b1
          simp only at this
          rw [this, show hasB (doG g ⟨15, u, u, 0⟩) u u = false from reme_out (o := ⟨15, u, u, 0⟩) f15 rfl b0]; rfl
        have e5 := own_back hR f15 rfl f14 rfl rfl rfl b0
        have e6 := own_gone hA (p := ⟨14, u, u, x⟩) (o := ⟨12, u, 0, 0⟩) rfl f12 rfl rfl
        have o15 : (⟨15, u, u, 0⟩ : Op).Fine := by unfold Op.Fine; simp only; omega
        have o14 : (⟨14, u, u, x⟩ : Op).Fine := by unfold Op.Fine; simp only; omega
        have o12 : (⟨12, u, 0, 0⟩ : Op).Fine := by unfold Op.Fine; simp only; omega
        exact own_full A c n g (doG g ⟨15, u, u, 0⟩) (doG (doG g ⟨15, u, u, 0⟩) ⟨14, u, u, x⟩) (doG (doG g ⟨15, u, u, 0⟩) ⟨12, u, 0, 0⟩) _ _ _ _ _ _ u x w hn hl h40 (by omega) hr hi
          (Lib.hid fun W B hB' => do_eq c (o := ⟨15, u, u, 0⟩) hn hB' hR.rises (by omega) o15 rfl rfl rfl)
          (Lib.hid fun W B d hB' => do_eq d (o := ⟨14, u, u, x⟩) rfl hB' hA.rises (by omega) o14 rfl e2 l2)
          (Lib.hid fun W B d hB' => has_eq d l2.symm hB' hB.rises (by omega) e4 e3)
          (Lib.hid fun W B d hB' => do_eq d (o := ⟨15, u, u, 0⟩) l2.symm hB' hB.rises (by omega) o15 e5 rfl rfl)
          (Lib.hid fun W B d hB' => do_eq d (o := ⟨12, u, 0, 0⟩) l2.symm hB' hB.rises (by omega) o12 e6 rfl rfl)
          (Lib.hid fun W B d hB' => do_eq d (o := ⟨12, u, 0, 0⟩) rfl hB' hA.rises (by omega) o12 rfl rfl rfl)
          rfl rfl (by omega)
end Go.Proofs.Ytmlcghbhkpbaeaa
