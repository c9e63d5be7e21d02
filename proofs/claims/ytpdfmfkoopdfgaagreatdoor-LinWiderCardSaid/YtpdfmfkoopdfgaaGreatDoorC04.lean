/- LWider. -/
import Derived.Test.YtpdfmfkoopdfgaaGreatDoorC00
import Derived.Test.YtpdfmfkoopdfgaaGreatDoorB39
import Derived.Test.YtpdfmfkoopdfgaaGreatDoorB38
import Derived.Test.YtpdfmfkoopdfgaaGreatDoorC02
import Derived.Test.YtpdfmfkoopdfgaaGreatDoorC03
import Derived.Test.YtpdfmfkoopdfgaaGreatDoorB20
import Derived.Test.YtpdfmfkoopdfgaaGreatDoorB47
import Derived.Deep.RegionHeld3
set_option linter.unusedVariables false
set_option linter.unusedSimpArgs false
section
namespace Go.Proofs.YtpdfmfkoopdfgaaGreatDoor
set_option maxRecDepth 100000
open Go.RowKit Aid Gr Hs LinP HeapP

theorem Cl.Fits.fine {a : Cl} (h : a.Fits) : a.Fine := ⟨h.2.2.1, h.2.2.2.1, h.2.2.2.2.1, h.2.2.2.2.2⟩
theorem Cl.Fits.short {a : Cl} (h : a.Fits) : a.list.length ≤ 9223372036854775807 := Nat.le_trans h.1 h.2.1
theorem own_blkC {w : World} {base : Nat} {e : TypeId} {size : Nat} {A : Option Addr} {n c : Nat} {xs : List Value} (h : w.ownsRow base e size (.slice A n c) n xs) (hn : 0 < n) : ∃ gk, A = some ⟨gk, 0, none⟩ ∧ base ≤ gk ∧ gk < w.heap.size := by
  rcases h.2 with ⟨_, h0⟩ | ⟨gk, cap, cur, hv, hg, _⟩
  · omega
  · injection hv with hA _ _
    subst hA
    exact ⟨gk, rfl, hg, (h.lt gk rfl).2⟩
theorem own_lower {w : World} {base base' : Nat} {e : TypeId} {size n : Nat} {v : Value} {xs : List Value} (h : w.ownsRow base e size v n xs) (hb : base' ≤ base) : w.ownsRow base' e size v n xs := by
  obtain ⟨h1, h2⟩ := h
  refine ⟨h1, ?_⟩
  rcases h2 with h2 | ⟨g, cap, cur, hv, hg, h3⟩
  · exact .inl h2
  · exact .inr ⟨g, cap, cur, hv, Nat.le_trans hb hg, h3⟩
theorem flat_cell {w : World} {base gk n c : Nat} {l : List Cl} (h : w.ownsRow base 43 13 (.slice (some ⟨gk, 0, none⟩) n c) n (flatC l)) {q : Nat} {a : Cl} (hq : l[q]? = some a) : ∀ k u, a.cells[k]? = some u → w.cell? ⟨gk, q * 13 + k, none⟩ = some u := fun k u hk => by
  have h1 := flatC_get l hq hk
  obtain ⟨b, off, hA, hc⟩ := own_slk2 h (by have := (List.getElem?_eq_some_iff.1 h1).1; omega)
  cases hA
  have := hc _ u h1
  rwa [Nat.zero_add] at this
theorem later_cells {a : Cl} {y : Int} (h : 0 ≤ a.to) : (later a y).cells = a.cells.set 7 (.int .i64 (a.to + y)) := by
  unfold later
  rw [if_pos h]
  rfl
theorem later_none {a : Cl} {y : Int} (h : ¬ 0 ≤ a.to) : later a y = a := if_neg h
theorem later_keeps (a : Cl) (y : Int) : (later a y).list = a.list ∧ (later a y).A = a.A ∧ (later a y).k = a.k ∧ (later a y).u = a.u ∧ (later a y).v = a.v ∧ (later a y).x = a.x := by
  unfold later
  split <;> exact ⟨rfl, rfl, rfl, rfl, rfl, rfl⟩
/-- What the loop asks of a call. -/
def Calm (c : Cl) : Prop := c.k ≠ 17 ∧ c.fr ≤ 1000000 ∧ c.to ≤ 1000000 ∧ c.era ≤ 1000000
set_option maxHeartbeats 16000000 in
theorem linWider_any (G : Option Addr) (gc : Nat) (g : List Arc) (A : Option Addr) (c : Nat) (l : List Cl) (x y : Int) (o : Gr.Op) (w : World) (hG : Arcs w G g) (hA : Cls w A l) (hF : ∀ a ∈ l, a.Fits) (hl : l.length ≤ c) (hc : c ≤ 9223372036854775807) (hx : 0 ≤ x ∧ x < 256) (hy : 0 ≤ y ∧ y < 256) (ho : o.Fine) (hT : Tab w) :
    Calls Tryz.prog 5 #[.agg #[.slice G g.length gc, .slice A l.length c, .int .u8 x, .int .u8 y, .int .i64 o.k, .int .i64 o.u, .int .i64 o.v, .int .u64 o.w]] w fun e w' => e = .returned (.bool true) ∧ Below w.heap.size w w' := by
  obtain ⟨ng, hng⟩ : ∃ ng, ng = g.length := ⟨_, rfl⟩
  obtain ⟨nh, hnh⟩ : ∃ nh, nh = l.length := ⟨_, rfl⟩
  rw [← hng, ← hnh]
  have HNG := Lib.hid hng
  have HNH := Lib.hid hnh
  have HG := Lib.hid hG
  have HH := Lib.hid hA
  have HF := Lib.hid hF
  have HO := Lib.hid ho
  have HX := Lib.hid hx
  have HY := Lib.hid hy
  have HT := Lib.hid hT
  have NB : Hid (nh ≤ 9223372036854775807) := Lib.hid (by omega)
  clear hng hnh hG hA hF hl hc hx hy ho hT
  have B0 : Hid (Below w.heap.size w ((w.alloc (.cells #[.slice G ng gc, .slice A nh c, .int .u8 x, .int .u8 y, .int .i64 o.k, .int .i64 o.u, .int .i64 o.v, .int .u64 o.w] 50)).alloc (.cells #[.int .i64 o.k, .int .i64 o.u, .int .i64 o.v, .int .u64 o.w] 38))) := Lib.hid (((Below.refl _ _).alloc (Nat.le_refl _) _).alloc (by rw [World.size_alloc]; omega) _)
  have D8 := Lib.hid (shown_any ((w.alloc (.cells #[.slice G ng gc, .slice A nh c, .int .u8 x, .int .u8 y, .int .i64 o.k, .int .i64 o.u, .int .i64 o.v, .int .u64 o.w] 50)).alloc (.cells #[.int .i64 o.k, .int .i64 o.u, .int .i64 o.v, .int .u64 o.w] 38)) (HT.out.below B0.out (Nat.le_refl _)))
  have OB : Hid (∀ W, Below ((w.alloc (.cells #[.slice G ng gc, .slice A nh c, .int .u8 x, .int .u8 y, .int .i64 o.k, .int .i64 o.u, .int .i64 o.v, .int .u64 o.w] 50)).alloc (.cells #[.int .i64 o.k, .int .i64 o.u, .int .i64 o.v, .int .u64 o.w] 38)).heap.size ((w.alloc (.cells #[.slice G ng gc, .slice A nh c, .int .u8 x, .int .u8 y, .int .i64 o.k, .int .i64 o.u, .int .i64 o.v, .int .u64 o.w] 50)).alloc (.cells #[.int .i64 o.k, .int .i64 o.u, .int .i64 o.v, .int .u64 o.w] 38)) W → W.cell? ⟨w.heap.size + 1, 0, none⟩ = some (.int .i64 o.k)) := Lib.hid fun W hW => (hW.cell (p := ⟨w.heap.size + 1, 0, none⟩) (by simp only [World.size_alloc]; omega)).trans (by
    have := World.cell?_alloc_new (w.alloc (.cells #[.slice G ng gc, .slice A nh c, .int .u8 x, .int .u8 y, .int .i64 o.k, .int .i64 o.u, .int .i64 o.v, .int .u64 o.w] 50)) #[.int .i64 o.k, .int .i64 o.u, .int .i64 o.v, .int .u64 o.w] 38 0
    rw [World.size_alloc] at this
    exact this.trans rfl)
  have OV : Hid (∀ W, Below ((w.alloc (.cells #[.slice G ng gc, .slice A nh c, .int .u8 x, .int .u8 y, .int .i64 o.k, .int .i64 o.u, .int .i64 o.v, .int .u64 o.w] 50)).alloc (.cells #[.int .i64 o.k, .int .i64 o.u, .int .i64 o.v, .int .u64 o.w] 38)).heap.size ((w.alloc (.cells #[.slice G ng gc, .slice A nh c, .int .u8 x, .int .u8 y, .int .i64 o.k, .int .i64 o.u, .int .i64 o.v, .int .u64 o.w] 50)).alloc (.cells #[.int .i64 o.k, .int .i64 o.u, .int .i64 o.v, .int .u64 o.w] 38)) W → W.cell? ⟨w.heap.size + 1, 1, none⟩ = some (.int .i64 o.u) ∧ W.cell? ⟨w.heap.size + 1, 2, none⟩ = some (.int .i64 o.v) ∧ W.cell? ⟨w.heap.size + 1, 3, none⟩ = some (.int .u64 o.w)) := Lib.hid fun W hW => by
    have hn : w.heap.size + 1 < ((w.alloc (.cells #[.slice G ng gc, .slice A nh c, .int .u8 x, .int .u8 y, .int .i64 o.k, .int .i64 o.u, .int .i64 o.v, .int .u64 o.w] 50)).alloc (.cells #[.int .i64 o.k, .int .i64 o.u, .int .i64 o.v, .int .u64 o.w] 38)).heap.size := by simp only [World.size_alloc]; omega
    have at' := fun j => World.cell?_alloc_new (w.alloc (.cells #[.slice G ng gc, .slice A nh c, .int .u8 x, .int .u8 y, .int .i64 o.k, .int .i64 o.u, .int .i64 o.v, .int .u64 o.w] 50)) #[.int .i64 o.k, .int .i64 o.u, .int .i64 o.v, .int .u64 o.w] 38 j
    simp only [World.size_alloc] at at'
    exact ⟨(hW.cell (p := ⟨w.heap.size + 1, 1, none⟩) hn).trans ((at' 1).trans rfl), (hW.cell (p := ⟨w.heap.size + 1, 2, none⟩) hn).trans ((at' 2).trans rfl), (hW.cell (p := ⟨w.heap.size + 1, 3, none⟩) hn).trans ((at' 3).trans rfl)⟩
  have D9 : Hid (g.length ≤ 10 → ∀ W, Below w.heap.size w W → Calls Tryz.prog 9 #[.slice G ng gc] W fun e w' => e = .returned (.bool (Gr.rightB g)) ∧ Below W.heap.size W w') := Lib.hid fun h W hW => Gr.refRight_any G gc ng g W HNG.out (HG.out.below hW (Nat.le_refl _)) (by omega)
  have D10 : Hid (∀ W, Below w.heap.size w W → Calls Tryz.prog 10 #[.slice A nh c, .int .i64 6] W fun e w' => ∃ b : Bool, e = .returned (.bool b) ∧ (b = true → Hs.RightP l ∧ (nh : Int) ≤ 6) ∧ Below W.heap.size W w') := Lib.hid fun W hW => small_any A c nh l 6 W HNH.out (HH.out.below hW (Nat.le_refl _)) NB.out
  go_enter Tryz.func5, Tryz.ntmps5
  go_upto_region 7 with (first
    | (go_at_call 8; ((with_reducible refine D8.out.mono ?_); rintro e w1 ⟨rfl, hb1⟩; have H1 := Lib.hid hb1; have B1 := Lib.hid (B0.out.trans (hb1.mono B0.out.size)); clear hb1)))
  by_cases h10 : (10 : Int) < (ng : Int)
  · have f10 : decide ((10 : Int) < (ng : Int)) = true := decide_eq_true h10
    go_wp2_with (fail)
    go_ret
    exact ⟨rfl, B1.out⟩
  · have f10 : decide ((10 : Int) < (ng : Int)) = false := decide_eq_false h10
    have HSM : Hid (g.length ≤ 10) := Lib.hid (by have := HNG.out; omega)
    have D9 := Lib.hid (D9.out HSM.out)
    clear h10
    obtain ⟨r, hr⟩ : ∃ r, Gr.rightB g = r := ⟨_, rfl⟩
    rw [hr] at D9
    have HR := Lib.hid hr
    clear hr
    cases r
    · go_wp2_with (first
        | (go_at_call 9; ((with_reducible refine (D9.out _ B1.out).mono ?_); rintro e w2 ⟨rfl, hb2⟩; have H2 := Lib.hid (H1.out.trans (hb2.mono H1.out.size)); have B2 := Lib.hid (B1.out.trans (hb2.mono B1.out.size)); have d0 := OB.out _ H2.out; clear hb2)))
      go_ret
      exact ⟨rfl, B2.out⟩
    · have HRG : Hid (Rises g) := Lib.hid (R.of (Gr.right_of HR.out)).1
      by_cases hn1 : (nh : Int) < 1
      · have fn1 : decide ((nh : Int) < 1) = true := decide_eq_true hn1
        go_wp2_with (first
          | (go_at_call 9; ((with_reducible refine (D9.out _ B1.out).mono ?_); rintro e w2 ⟨rfl, hb2⟩; have H2 := Lib.hid (H1.out.trans (hb2.mono H1.out.size)); have B2 := Lib.hid (B1.out.trans (hb2.mono B1.out.size)); have d0 := OB.out _ H2.out; clear hb2))
          | (go_at_call 10; ((with_reducible refine (D10.out _ B2.out).mono ?_); rintro e w3 ⟨b3, rfl, hs3, hb3⟩; have HS3 := Lib.hid hs3; have H3 := Lib.hid (H2.out.trans (hb3.mono H2.out.size)); have B3 := Lib.hid (B2.out.trans (hb3.mono B2.out.size)); have e0 := OB.out _ H3.out; clear hs3 hb3)))
        all_goals go_ret
        all_goals exact ⟨rfl, B3.out⟩
      · have fn1 : decide ((nh : Int) < 1) = false := decide_eq_false hn1
        have HN1 : Hid (1 ≤ nh) := Lib.hid (by omega)
        clear hn1
        by_cases hk1 : o.k < 11
        · have fk1 : decide (o.k < 11) = true := decide_eq_true hk1
          go_wp2_with (first
            | (go_at_call 9; ((with_reducible refine (D9.out _ B1.out).mono ?_); rintro e w2 ⟨rfl, hb2⟩; have H2 := Lib.hid (H1.out.trans (hb2.mono H1.out.size)); have B2 := Lib.hid (B1.out.trans (hb2.mono B1.out.size)); have d0 := OB.out _ H2.out; clear hb2))
            | (go_at_call 10; ((with_reducible refine (D10.out _ B2.out).mono ?_); rintro e w3 ⟨b3, rfl, hs3, hb3⟩; have HS3 := Lib.hid hs3; have H3 := Lib.hid (H2.out.trans (hb3.mono H2.out.size)); have B3 := Lib.hid (B2.out.trans (hb3.mono B2.out.size)); have e0 := OB.out _ H3.out; clear hs3 hb3)))
          all_goals go_ret
          all_goals exact ⟨rfl, B3.out⟩
        · have fk1 : decide (o.k < 11) = false := decide_eq_false hk1
          by_cases hk2 : 16 < o.k
          · have fk2 : decide (16 < o.k) = true := decide_eq_true hk2
            go_wp2_with (first
              | (go_at_call 9; ((with_reducible refine (D9.out _ B1.out).mono ?_); rintro e w2 ⟨rfl, hb2⟩; have H2 := Lib.hid (H1.out.trans (hb2.mono H1.out.size)); have B2 := Lib.hid (B1.out.trans (hb2.mono B1.out.size)); have d0 := OB.out _ H2.out; clear hb2))
              | (go_at_call 10; ((with_reducible refine (D10.out _ B2.out).mono ?_); rintro e w3 ⟨b3, rfl, hs3, hb3⟩; have HS3 := Lib.hid hs3; have H3 := Lib.hid (H2.out.trans (hb3.mono H2.out.size)); have B3 := Lib.hid (B2.out.trans (hb3.mono B2.out.size)); have e0 := OB.out _ H3.out; clear hs3 hb3)))
            all_goals go_ret
            all_goals exact ⟨rfl, B3.out⟩
          · have fk2 : decide (16 < o.k) = false := decide_eq_false hk2
            have HK : Hid (11 ≤ o.k ∧ o.k ≤ 16) := Lib.hid (by omega)
            clear hk1 hk2
            go_upto_region 8 with (first
              | (go_at_call 9; ((with_reducible refine (D9.out _ B1.out).mono ?_); rintro e w2 ⟨rfl, hb2⟩; have H2 := Lib.hid (H1.out.trans (hb2.mono H1.out.size)); have B2 := Lib.hid (B1.out.trans (hb2.mono B1.out.size)); have d0 := OB.out _ H2.out; clear hb2))
              | (go_at_call 10; ((with_reducible refine (D10.out _ B2.out).mono ?_); rintro e w3 ⟨b3, rfl, hs3, hb3⟩; have HS3 := Lib.hid hs3; have H3 := Lib.hid (H2.out.trans (hb3.mono H2.out.size)); have B3 := Lib.hid (B2.out.trans (hb3.mono B2.out.size)); have e0 := OB.out _ H3.out; clear hs3 hb3)))
            rotate_left
            · go_wp2
              go_ret
              exact ⟨rfl, B3.out⟩
            have h7 := HS3.out ‹b3 = true›
            have HRT := Lib.hid h7.1
            have n6 : nh ≤ 6 := by omega
            clear h7
            have IN : Hid (∀ W, Below w.heap.size w W → LIn W G ng g A nh l) := Lib.hid fun W hW => (LIn.mk HNG.out HNH.out HG.out HRG.out (by have := HSM.out; omega) HH.out (fun a ha => Cl.Fits.short (HF.out a ha)) HT.out ⟨HRT.out, by have := HNH.out; omega, fun a ha => Cl.Fits.fine (HF.out a ha)⟩).below hW (Nat.le_refl _)
            clear e0
            go_loopw [9] (fun x9 wr => ∃ i : Nat, i ≤ nh ∧ x9 = .int .i64 i ∧ (∀ (j : Nat) (a : Cl), j < i → l[j]? = some a → Calm a) ∧ wr = w3) (fun x9 _ => nh - (intOf x9).toNat)
            case atStart => exact ⟨0, Nat.zero_le _, rfl, fun j a hj => by omega, rfl⟩
            case round =>
              obtain ⟨i, hi, rfl, hcalm, rfl⟩ := hrel
              have HCA := Lib.hid hcalm
              clear hcalm
              by_cases hlt : i < nh
              · obtain ⟨q, hq⟩ : ∃ q, l[i]? = some q := ⟨l[i]'(by rw [← HNH.out]; exact hlt), List.getElem?_eq_getElem _⟩
                obtain ⟨b, off, hAb, c0, c1, c2, c3, c4, c5, c6, c7, c8, c9, c10, c11, c12⟩ := (HH.out.below B3.out (Nat.le_refl _)).get hq
                subst hAb
                have HQ := Lib.hid hq
                clear hq c0 c2 c3 c4 c8 c9 c10 c11 c12
                have i0 : (0 : Int) ≤ (i : Int) := by omega
                have i1 : (i : Int) < (nh : Int) := by omega
                have iz : IntKind.i64.wrap ((i : Int) + 1) = (i : Int) + 1 := by rw [IntKind.wrap_i64] <;> omega
                by_cases q1 : q.k = 17
                · have g1 : (q.k == 17) = true := by simpa using q1
                  clear q1
                  go_wp2
                  go_ret
                  exact ⟨rfl, B3.out⟩
                · have g1 : (q.k == 17) = false := by simpa using q1
                  by_cases q2 : 1000000 < q.fr
                  · have g2 : decide (1000000 < q.fr) = true := decide_eq_true q2
                    clear q1 q2
                    go_wp2
                    go_ret
                    exact ⟨rfl, B3.out⟩
                  · have g2 : decide (1000000 < q.fr) = false := decide_eq_false q2
                    by_cases q3 : 1000000 < q.to
                    · have g3 : decide (1000000 < q.to) = true := decide_eq_true q3
                      clear q1 q2 q3
                      go_wp2
                      go_ret
                      exact ⟨rfl, B3.out⟩
                    · have g3 : decide (1000000 < q.to) = false := decide_eq_false q3
                      by_cases q4 : 1000000 < q.era
                      · have g4 : decide (1000000 < q.era) = true := decide_eq_true q4
                        clear q1 q2 q3 q4
                        go_wp2
                        go_ret
                        exact ⟨rfl, B3.out⟩
                      · have g4 : decide (1000000 < q.era) = false := decide_eq_false q4
                        have HC : Hid (Calm q) := Lib.hid ⟨q1, by omega, by omega, by omega⟩
                        clear q1 q2 q3 q4
                        go_wp2
                        refine ⟨⟨i + 1, by omega, by go_num, fun j a hj ha => ?_, by first | rfl | trivial⟩, by simp [intOf]; omega⟩
                        rcases Nat.lt_or_ge j i with h | h
                        · exact HCA.out j a h ha
                        · obtain rfl : j = i := by omega
                          rw [HQ.out] at ha; cases ha; exact HC.out
              · obtain rfl : i = nh := by omega
                have ALL : Hid (∀ a ∈ l, Calm a) := Lib.hid fun a ha => by
                  obtain ⟨j, hj, rfl⟩ := List.getElem_of_mem ha
                  exact HCA.out j _ (by have := HNH.out; omega) (List.getElem?_eq_getElem hj)
                have H17 : Hid (∀ a ∈ l, a.k ≠ 17) := Lib.hid fun a ha => (ALL.out a ha).1
                clear HCA
                obtain ⟨bi, hbi⟩ : ∃ b : Bool, b = true ↔ ∃ g', Ends l g g' := by classical exact ⟨decide _, decide_eq_true_iff⟩
                have HBI := Lib.hid hbi
                clear hbi
                have D14 := Lib.hid (order_says G gc ng g A c i l wr (IN.out wr B3.out) bi HBI.out)
                obtain ⟨b43, hb43, hz0, hz1, hz2⟩ := info_parts call_info
                have PE := Lib.hid (own_emptyC)
                have PL := Lib.hid (flatC_length l)
                have P1 := Lib.hid (flatC_one l)
                have PS : Hid (∀ W, Below w.heap.size w W → Sl W A (flatC l)) := Lib.hid fun W hW => cls_sl (HH.out.below hW (Nat.le_refl _))
                have m1 : Hid (0 + i ≤ maxLen) := Lib.hid (by unfold maxLen; omega)
                have m2 : Hid ((0 + i) * 120 ≤ 140737488355328) := Lib.hid (by omega)
                have ml : Hid ((flatC l).length = i * 13) := Lib.hid (by rw [PL.out, HNH.out])
                go_upto_region 16 with (first
                  | (go_at_call 14; ((with_reducible refine D14.out.mono ?_); rintro e w5 ⟨rfl, hb5⟩; have B5 := Lib.hid (B3.out.trans (hb5.mono B3.out.size)); have H5 := Lib.hid (H3.out.trans (hb5.mono H3.out.size)); clear hb5))
                  | (
                    at_builtin
                    refine wpList_append_sl _ rfl (.tmp 96) (.tmp 97) 23 rfl w5.heap.size 43 b43 _ 13 120 Tryz.underlying23 hb43 hz0 hz1 hz2 rfl (by decide) _ 0 _ rfl (PE.out w5) A i c (flatC l) rfl ml.out (PS.out _ (B5.out.alloc B5.out.size _)) P1.out m1.out m2.out (by rw [World.size_alloc]; omega) i (Nat.zero_add _).symm ?_
                    intro A6 c6 w6 hown6 hb6 _ _
                    have O6 := Lib.hid hown6
                    have B6 := Lib.hid (B5.out.trans ((((Below.refl w5.heap.size w5).alloc (Nat.le_refl _) _).trans hb6).mono B5.out.size))
                    have H6 := Lib.hid (H5.out.trans ((((Below.refl w5.heap.size w5).alloc (Nat.le_refl _) _).trans hb6).mono H5.out.size))
                    clear hown6 hb6))
                have i00 : 0 < i := HN1.out
                obtain ⟨gk, rfl, hgk0, hgk1⟩ := own_blkC O6.out i00
                have GK := Lib.hid hgk0
                obtain ⟨q, hq1, hq2⟩ : ∃ q : Nat, x.tmod (i : Int) = (q : Int) ∧ q < i := by
                  have hx0 := HX.out.1
                  have e1 : x.tmod (i : Int) = x % (i : Int) := Int.tmod_eq_emod_of_nonneg hx0
                  have e2 : 0 ≤ x % (i : Int) := Int.emod_nonneg _ (by omega)
                  have e3 : x % (i : Int) < (i : Int) := Int.emod_lt_of_pos _ (by omega)
                  exact ⟨(x % (i : Int)).toNat, by omega, by omega⟩
                obtain ⟨a, ha⟩ : ∃ a, l[q]? = some a := ⟨l[q]'(by rw [← HNH.out]; exact hq2), List.getElem?_eq_getElem _⟩
                have HA := Lib.hid ha
                have cto := flat_cell O6.out ha 7 (.int .i64 a.to) rfl
                have fto := own_frozen O6.out (q * 13 + 7)
                have AC := Lib.hid (ALL.out a (List.mem_of_getElem? ha))
                clear ha hgk0
                have wx : IntKind.i64.wrap x = x := by have := HX.out; rw [IntKind.wrap_i64] <;> omega
                have wy : IntKind.i64.wrap y = y := by have := HY.out; rw [IntKind.wrap_i64] <;> omega
                have q0 : (0 : Int) ≤ (q : Int) := by omega
                have q1 : (q : Int) < (i : Int) := by omega
                have qz : IntKind.i64.wrap (q : Int) = (q : Int) := by rw [IntKind.wrap_i64] <;> omega
                have iz : ¬ ((i : Int) = 0) := by omega
                by_cases hto : 0 ≤ a.to
                case' pos =>
                  have fto2 : decide (0 ≤ a.to) = true := decide_eq_true hto
                  have wty : IntKind.i64.wrap (a.to + y) = a.to + y := by have := HY.out; have := AC.out.2.2.1; rw [IntKind.wrap_i64] <;> omega
                  have O7 : Hid ((w6.setCell ⟨gk, q * 13 + 7, none⟩ (.int .i64 (a.to + y))).ownsRow w5.heap.size 43 13 (.slice (some ⟨gk, 0, none⟩) i c6) i (flatC (l.set q (later a y)))) := Lib.hid (by
                    rw [← flatC_set l HA.out (by decide) (later_cells hto)]
                    exact own_set O6.out _ _)
                  have B7 : Hid (Below w.heap.size w (w6.setCell ⟨gk, q * 13 + 7, none⟩ (.int .i64 (a.to + y)))) := Lib.hid (B6.out.setCell (p := ⟨gk, q * 13 + 7, none⟩) (Nat.le_trans B5.out.size GK.out) _)
                  have H7 : Hid (Below ((w.alloc (.cells #[.slice G ng gc, .slice A i c, .int .u8 x, .int .u8 y, .int .i64 o.k, .int .i64 o.u, .int .i64 o.v, .int .u64 o.w] 50)).alloc (.cells #[.int .i64 o.k, .int .i64 o.u, .int .i64 o.v, .int .u64 o.w] 38)).heap.size ((w.alloc (.cells #[.slice G ng gc, .slice A i c, .int .u8 x, .int .u8 y, .int .i64 o.k, .int .i64 o.u, .int .i64 o.v, .int .u64 o.w] 50)).alloc (.cells #[.int .i64 o.k, .int .i64 o.u, .int .i64 o.v, .int .u64 o.w] 38)) (w6.setCell ⟨gk, q * 13 + 7, none⟩ (.int .i64 (a.to + y)))) := Lib.hid (H6.out.setCell (p := ⟨gk, q * 13 + 7, none⟩) (Nat.le_trans H5.out.size GK.out) _)
                  clear hto
                  go_upto_region 19 with (fail)
                  clear fto cto fto2 wty
                  generalize w6.setCell ⟨gk, q * 13 + 7, none⟩ (.int .i64 (a.to + y)) = w7 at *
                case' neg =>
                  have fto2 : decide (0 ≤ a.to) = false := decide_eq_false hto
                  have O7 : Hid (w6.ownsRow w5.heap.size 43 13 (.slice (some ⟨gk, 0, none⟩) i c6) i (flatC (l.set q (later a y)))) := Lib.hid (by
                    rw [later_none hto, set_same HA.out]
                    exact O6.out)
                  have B7 := Lib.hid B6.out
                  have H7 := Lib.hid H6.out
                  clear hto
                  go_upto_region 19 with (fail)
                  clear fto cto fto2
                  obtain ⟨w7, hw7⟩ : ∃ w7, w7 = w6 := ⟨_, rfl⟩
                  subst hw7
                all_goals
                  obtain ⟨kl, hkl⟩ : ∃ kl, kl = l.set q (later a y) := ⟨_, rfl⟩
                  rw [← hkl] at O7
                  have HKL := Lib.hid hkl
                  clear hkl
                  have KLEN : Hid (i = kl.length) := Lib.hid (by rw [HKL.out, List.length_set]; exact HNH.out)
                  have KMEM : Hid (∀ b ∈ kl, ∃ b0 ∈ l, b.list = b0.list ∧ b.A = b0.A ∧ b.k = b0.k ∧ b.u = b0.u ∧ b.v = b0.v ∧ b.x = b0.x) := Lib.hid fun b hb => by
                    rw [HKL.out] at hb
                    rcases List.mem_or_eq_of_mem_set hb with h | h
                    · exact ⟨b, h, rfl, rfl, rfl, rfl, rfl, rfl⟩
                    · subst h
                      exact ⟨a, List.mem_of_getElem? HA.out, later_keeps a y⟩
                  have KC : Hid (∀ W, Below w7.heap.size w7 W → Cls W (some ⟨gk, 0, none⟩) kl) := Lib.hid fun W hW => (own_cls O7.out (fun b hb => by
                    obtain ⟨b0, h0, h1, h2, _⟩ := KMEM.out b hb
                    rw [h1, h2]
                    exact (HH.out.below B7.out (Nat.le_refl _)).1 b0 h0)).below hW (Nat.le_refl _)
                  have KIN : Hid (Hs.rightB kl = true → ∀ W, Below w7.heap.size w7 W → LIn W G ng g (some ⟨gk, 0, none⟩) i kl) := Lib.hid fun hr W hW => by
                    have h0 := IN.out W (B7.out.trans (hW.mono B7.out.size))
                    exact ⟨h0.hng, KLEN.out, h0.hg, h0.hr, h0.few, KC.out W hW, fun b hb => (by
                      obtain ⟨b0, h0, h1, _⟩ := KMEM.out b hb
                      rw [h1]; exact Cl.Fits.short (HF.out b0 h0)), h0.ht, ⟨Hs.right_of hr, by have := KLEN.out; omega, fun b hb => (by
                      obtain ⟨b0, h0, _, _, h3, h4, h5, h6⟩ := KMEM.out b hb
                      have := Cl.Fits.fine (HF.out b0 h0)
                      exact ⟨by rw [h3]; exact this.k, by rw [h4]; exact this.u, by rw [h5]; exact this.v, by rw [h6]; exact this.x⟩)⟩⟩
                  have D16 : Hid (∀ W, Below w7.heap.size w7 W → Calls Tryz.prog 16 #[.slice (some ⟨gk, 0, none⟩) i c6] W fun e w' => e = .returned (.bool (Hs.rightB kl)) ∧ Below W.heap.size W w') := Lib.hid fun W hW => Hs.refRight_any _ c6 i kl W KLEN.out (KC.out W hW) (by have := KLEN.out; omega)
                  have D14k : Hid (Hs.rightB kl = true → bi = true → ∀ W, Below w7.heap.size w7 W → Calls Tryz.prog 14 #[.slice G ng gc, .slice (some ⟨gk, 0, none⟩) i c6] W fun e w' => e = .returned (.bool true) ∧ Below W.heap.size W w') := Lib.hid fun hr hb W hW => order_says G gc ng g _ c6 i kl W (KIN.out hr W hW) true ⟨fun _ => by
                    obtain ⟨g', hg'⟩ := HBI.out.1 hb
                    rw [HKL.out]
                    exact ⟨g', wider_later H17.out HY.out.1 HA.out hg'⟩, fun _ => rfl⟩
                  generalize Hs.rightB kl = r2 at D16 KIN D14k
                  obtain ⟨p, hp⟩ : ∃ p, i = p + 1 := ⟨i - 1, by omega⟩
                  obtain ⟨z, hz⟩ : ∃ z, l[p]? = some z := ⟨l[p]'(by rw [← HNH.out]; omega), List.getElem?_eq_getElem _⟩
                  have HZ := Lib.hid hz
                  have ZC := Lib.hid (ALL.out z (List.mem_of_getElem? hz))
                  have ZF : Hid (-9223372036854775808 ≤ z.fr + 1 ∧ 0 ≤ z.fr) := Lib.hid (by
                    have h1 := of_decide_eq_true ((HRT.out p z hz).1)
                    omega)
                  have pz : IntKind.i64.wrap ((i : Int) - 1) = (p : Int) := by rw [IntKind.wrap_i64] <;> omega
                  have p0 : (0 : Int) ≤ (p : Int) := by omega
                  have p1 : (p : Int) < (i : Int) := by omega
                  have frz : IntKind.i64.wrap (z.fr + 1) = z.fr + 1 := by have := ZF.out; have := ZC.out.2.1; rw [IntKind.wrap_i64] <;> omega
                  clear hz hp
                  cases r2 <;> cases bi
                  all_goals
                    try (have DK := Lib.hid (D14k.out rfl rfl))
                    go_upto_region 21 with (first
                      | (go_at_call 16; ((with_reducible refine (D16.out _ (Below.refl _ _)).mono ?_); rintro e w8 ⟨rfl, hb8⟩; have X8 := Lib.hid hb8; clear hb8))
                      | (go_at_call 14; ((with_reducible refine (DK.out w8 X8.out).mono ?_); rintro e w9 ⟨rfl, hb9⟩; have X9 := Lib.hid (X8.out.trans (hb9.mono X8.out.size)); clear hb9)))
                    first
                      | (obtain ⟨wz, hwz⟩ : ∃ wz, wz = w9 := ⟨_, rfl⟩; subst hwz; have XZ := Lib.hid X9.out; clear X8 X9)
                      | (obtain ⟨wz, hwz⟩ : ∃ wz, wz = w8 := ⟨_, rfl⟩; subst hwz; have XZ := Lib.hid X8.out; clear X8)
                    have BZ := Lib.hid (B7.out.trans (XZ.out.mono B7.out.size))
                    have HZ0 := Lib.hid (H7.out.trans (XZ.out.mono H7.out.size))
                    obtain ⟨b, off, hAb, c0, c1, c2, c3, c4, c5, c6', c7, c8, c9, c10, c11, c12⟩ := (HH.out.below BZ.out (Nat.le_refl _)).get HZ.out
                    subst hAb
                    have AT := Lib.hid (at_box wz z)
                    have BY := Lib.hid (BZ.out.alloc BZ.out.size (bx z))
                    have HY0 := Lib.hid (HZ0.out.alloc HZ0.out.size (bx z))
                    unfold bx at AT BY HY0
                    go_upto_region 22 with (fail)
                    clear c0 c1 c2 c3 c4 c5 c6' c7 c8 c9 c10 c11 c12
                    obtain ⟨lb, hlb⟩ : ∃ lb, lb = wz.heap.size := ⟨_, rfl⟩
                    rw [← hlb] at AT ⊢
                    clear hlb
                    generalize wz.alloc (.cells #[.int .i64 z.me, .int .i64 z.k, .int .i64 z.u, .int .i64 z.v, .int .u64 z.x, .int .i64 z.era, .int .i64 z.fr, .int .i64 z.to, .int .i64 z.err, .bool z.is, .int .i64 z.n, .int .u64 z.w, .slice z.A z.list.length z.cap] 43) = wy at *
                    obtain ⟨mc, hmc⟩ : ∃ mc : Cl, mc = ⟨63, o.k, o.u, o.v, o.w, z.era, z.fr + 1, -1, 0, false, 0, 0, [], none, 0⟩ := ⟨_, rfl⟩
                    have HMC := Lib.hid hmc
                    clear hmc
                    have KK : Hid (∀ W : World, Below wy.heap.size wy W → W.cell? ⟨w.heap.size + 1, 0, none⟩ = some (.int .i64 o.k) ∧ W.cell? ⟨w.heap.size + 1, 1, none⟩ = some (.int .i64 o.u) ∧ W.cell? ⟨w.heap.size + 1, 2, none⟩ = some (.int .i64 o.v) ∧ W.cell? ⟨w.heap.size + 1, 3, none⟩ = some (.int .u64 o.w) ∧ W.cell? ⟨lb, 5, none⟩ = some (.int .i64 z.era) ∧ W.cell? ⟨lb, 6, none⟩ = some (.int .i64 z.fr) ∧ Below wy.heap.size wy W) := Lib.hid fun W hW => ⟨cellL (OB.out _ HY0.out) hW, cellL (OV.out _ HY0.out).1 hW, cellL (OV.out _ HY0.out).2.1 hW, cellL (OV.out _ HY0.out).2.2 hW, cellL AT.out.2.2.2.2.2.1 hW, cellL AT.out.2.2.2.2.2.2.1 hW, hW⟩
                    have BW1 : Hid (Below wy.heap.size wy (wy.alloc (.cells #[] 43)).drew) := Lib.hid ((Below.refl _ _).alloc (Nat.le_refl _) _).drew
                    have BW2 : Hid (Below wy.heap.size wy ((wy.alloc (.cells #[] 43)).alloc (.cells #[.int .i64 63, .int .i64 o.k, .int .i64 o.u, .int .i64 o.v, .int .u64 o.w, .int .i64 z.era, .int .i64 (z.fr + 1), .int .i64 (-1), .int .i64 0, .bool false, .int .i64 0, .int .u64 0, .slice none 0 0] 43)).drew) := Lib.hid (((Below.refl _ _).alloc (Nat.le_refl _) _).alloc (by rw [World.size_alloc]; omega) _).drew
                    have BW3 : Hid (Below wy.heap.size wy (wy.alloc (.cells #[.int .i64 63, .int .i64 o.k, .int .i64 o.u, .int .i64 o.v, .int .u64 o.w, .int .i64 z.era, .int .i64 (z.fr + 1), .int .i64 (-1), .int .i64 0, .bool false, .int .i64 0, .int .u64 0, .slice none 0 0] 43)).drew) := Lib.hid ((Below.refl _ _).alloc (Nat.le_refl _) _).drew
                    have BW4 : Hid (Below wy.heap.size wy ((wy.alloc (.cells #[.int .i64 63, .int .i64 o.k, .int .i64 o.u, .int .i64 o.v, .int .u64 o.w, .int .i64 z.era, .int .i64 (z.fr + 1), .int .i64 (-1), .int .i64 0, .bool false, .int .i64 0, .int .u64 0, .slice none 0 0] 43)).alloc (.cells #[] 43)).drew) := Lib.hid (((Below.refl _ _).alloc (Nat.le_refl _) _).alloc (by rw [World.size_alloc]; omega) _).drew
                    have S0 := Lib.hid (KK.out _ (Below.refl _ _).drew)
                    have S1 := Lib.hid (KK.out _ BW1.out)
                    have S2 := Lib.hid (KK.out _ BW2.out)
                    have S3 := Lib.hid (KK.out _ BW3.out)
                    have S4 := Lib.hid (KK.out _ BW4.out)
                    have KA : Hid (∀ W : World, Below wy.heap.size wy W → (W.alloc (.cells #[.int .i64 63, .int .i64 o.k, .int .i64 o.u, .int .i64 o.v, .int .u64 o.w, .int .i64 z.era, .int .i64 (z.fr + 1), .int .i64 (-1), .int .i64 0, .bool false, .int .i64 0, .int .u64 0, .slice none 0 0] 43)).cell? ⟨w.heap.size + 1, 0, none⟩ = some (.int .i64 o.k) ∧ (W.alloc (.cells #[.int .i64 63, .int .i64 o.k, .int .i64 o.u, .int .i64 o.v, .int .u64 o.w, .int .i64 z.era, .int .i64 (z.fr + 1), .int .i64 (-1), .int .i64 0, .bool false, .int .i64 0, .int .u64 0, .slice none 0 0] 43)).cell? ⟨w.heap.size + 1, 1, none⟩ = some (.int .i64 o.u) ∧ (W.alloc (.cells #[.int .i64 63, .int .i64 o.k, .int .i64 o.u, .int .i64 o.v, .int .u64 o.w, .int .i64 z.era, .int .i64 (z.fr + 1), .int .i64 (-1), .int .i64 0, .bool false, .int .i64 0, .int .u64 0, .slice none 0 0] 43)).cell? ⟨w.heap.size + 1, 2, none⟩ = some (.int .i64 o.v) ∧ (W.alloc (.cells #[.int .i64 63, .int .i64 o.k, .int .i64 o.u, .int .i64 o.v, .int .u64 o.w, .int .i64 z.era, .int .i64 (z.fr + 1), .int .i64 (-1), .int .i64 0, .bool false, .int .i64 0, .int .u64 0, .slice none 0 0] 43)).cell? ⟨w.heap.size + 1, 3, none⟩ = some (.int .u64 o.w) ∧ (W.alloc (.cells #[.int .i64 63, .int .i64 o.k, .int .i64 o.u, .int .i64 o.v, .int .u64 o.w, .int .i64 z.era, .int .i64 (z.fr + 1), .int .i64 (-1), .int .i64 0, .bool false, .int .i64 0, .int .u64 0, .slice none 0 0] 43)).cell? ⟨lb, 5, none⟩ = some (.int .i64 z.era) ∧ (W.alloc (.cells #[.int .i64 63, .int .i64 o.k, .int .i64 o.u, .int .i64 o.v, .int .u64 o.w, .int .i64 z.era, .int .i64 (z.fr + 1), .int .i64 (-1), .int .i64 0, .bool false, .int .i64 0, .int .u64 0, .slice none 0 0] 43)).cell? ⟨lb, 6, none⟩ = some (.int .i64 z.fr) ∧ Below wy.heap.size wy (W.alloc (.cells #[.int .i64 63, .int .i64 o.k, .int .i64 o.u, .int .i64 o.v, .int .u64 o.w, .int .i64 z.era, .int .i64 (z.fr + 1), .int .i64 (-1), .int .i64 0, .bool false, .int .i64 0, .int .u64 0, .slice none 0 0] 43))) := Lib.hid fun W hW => KK.out _ (hW.alloc hW.size _)
                    have E1 : Hid ((wy.alloc (.cells #[] 43)).drew.ownsRow wy.heap.size 43 13 (.slice (some ⟨wy.heap.size, 0, none⟩) 0 0) 0 []) := Lib.hid (own_emptyC wy)
                    have E2 : Hid (((wy.alloc (.cells #[] 43)).alloc (.cells #[.int .i64 63, .int .i64 o.k, .int .i64 o.u, .int .i64 o.v, .int .u64 o.w, .int .i64 z.era, .int .i64 (z.fr + 1), .int .i64 (-1), .int .i64 0, .bool false, .int .i64 0, .int .u64 0, .slice none 0 0] 43)).drew.ownsRow wy.heap.size 43 13 (.slice (some ⟨wy.heap.size, 0, none⟩) 0 0) 0 []) := Lib.hid ((own_emptyC wy).alloc _)
                    have E4 : Hid (((wy.alloc (.cells #[.int .i64 63, .int .i64 o.k, .int .i64 o.u, .int .i64 o.v, .int .u64 o.w, .int .i64 z.era, .int .i64 (z.fr + 1), .int .i64 (-1), .int .i64 0, .bool false, .int .i64 0, .int .u64 0, .slice none 0 0] 43)).alloc (.cells #[] 43)).drew.ownsRow wy.heap.size 43 13 (.slice (some ⟨wy.heap.size + 1, 0, none⟩) 0 0) 0 []) := Lib.hid (by
                      have h := own_emptyC (wy.alloc (.cells #[.int .i64 63, .int .i64 o.k, .int .i64 o.u, .int .i64 o.v, .int .u64 o.w, .int .i64 z.era, .int .i64 (z.fr + 1), .int .i64 (-1), .int .i64 0, .bool false, .int .i64 0, .int .u64 0, .slice none 0 0] 43))
                      rw [World.size_alloc] at h
                      exact own_lower h (by omega))
                    have PY1 := Lib.hid (PS.out _ (BY.out.trans (BW1.out.mono BY.out.size)))
                    have PY2 := Lib.hid (PS.out _ (BY.out.trans (BW2.out.mono BY.out.size)))
                    have PY4 := Lib.hid (PS.out _ (BY.out.trans (BW4.out.mono BY.out.size)))
                    have SLB : Hid (∀ W : World, Sl (W.alloc (.cells #[.int .i64 63, .int .i64 o.k, .int .i64 o.u, .int .i64 o.v, .int .u64 o.w, .int .i64 z.era, .int .i64 (z.fr + 1), .int .i64 (-1), .int .i64 0, .bool false, .int .i64 0, .int .u64 0, .slice none 0 0] 43)) (some ⟨W.heap.size, 0, none⟩) (flatC [mc])) := Lib.hid fun W => by rw [HMC.out]; exact sl_call W ⟨63, o.k, o.u, o.v, o.w, z.era, z.fr + 1, -1, 0, false, 0, 0, [], none, 0⟩
                    have fm := Lib.hid (flatC_length [mc])
                    have fo := Lib.hid (flatC_one [mc])
                    have m3 : Hid (i + 1 ≤ maxLen) := Lib.hid (by unfold maxLen; omega)
                    have m4 : Hid ((i + 1) * 120 ≤ 140737488355328) := Lib.hid (by omega)
                    -- the new call's box, behind the first append
                    have far : ∀ (W w10 : World) (gb : Nat) (k : Nat), Sl W (some ⟨gb, 0, none⟩) (flatC [mc]) → gb < W.heap.size → W.grownBy w10 (some k) → gb ≠ k → Sl w10 (some ⟨gb, 0, none⟩) (flatC [mc]) := fun W w10 gb k h hlt hg hne hp => by
                      obtain ⟨b2, o2, hA2, hc2⟩ := h hp
                      cases hA2
                      exact ⟨gb, 0, rfl, fun j u hu => (hg.cell_far ⟨gb, 0 + j, none⟩ hlt (fun e => hne (Option.some.inj e))).trans (hc2 j u hu)⟩
                    have SBF2 : Hid (∀ w10 : World, ((wy.alloc (.cells #[] 43)).alloc (.cells #[.int .i64 63, .int .i64 o.k, .int .i64 o.u, .int .i64 o.v, .int .u64 o.w, .int .i64 z.era, .int .i64 (z.fr + 1), .int .i64 (-1), .int .i64 0, .bool false, .int .i64 0, .int .u64 0, .slice none 0 0] 43)).drew.grownBy w10 (some wy.heap.size) → Sl w10 (some ⟨wy.heap.size + 1, 0, none⟩) (flatC [mc])) := Lib.hid fun w10 hg => far _ w10 _ wy.heap.size (by
                      have h := SLB.out (wy.alloc (.cells #[] 43))
                      rw [World.size_alloc] at h
                      exact h) (by show _ < ((wy.alloc _).alloc _).heap.size; simp only [World.size_alloc]; omega) hg (by omega)
                    have SBF4 : Hid (∀ w10 : World, ((wy.alloc (.cells #[.int .i64 63, .int .i64 o.k, .int .i64 o.u, .int .i64 o.v, .int .u64 o.w, .int .i64 z.era, .int .i64 (z.fr + 1), .int .i64 (-1), .int .i64 0, .bool false, .int .i64 0, .int .u64 0, .slice none 0 0] 43)).alloc (.cells #[] 43)).drew.grownBy w10 (some (wy.heap.size + 1)) → Sl w10 (some ⟨wy.heap.size, 0, none⟩) (flatC [mc])) := Lib.hid fun w10 hg => far _ w10 _ (wy.heap.size + 1) ((SLB.out wy).below ((Below.refl _ _).alloc (Nat.le_refl _) _).drew (Nat.le_refl _)) (by show _ < ((wy.alloc _).alloc _).heap.size; simp only [World.size_alloc]; omega) hg (by omega)
                    clear far
                    go_region_held3 (fun W => W.cell? ⟨w.heap.size + 1, 0, none⟩ = some (.int .i64 o.k) ∧ W.cell? ⟨w.heap.size + 1, 1, none⟩ = some (.int .i64 o.u) ∧ W.cell? ⟨w.heap.size + 1, 2, none⟩ = some (.int .i64 o.v) ∧ W.cell? ⟨w.heap.size + 1, 3, none⟩ = some (.int .u64 o.w) ∧ W.cell? ⟨lb, 5, none⟩ = some (.int .i64 z.era) ∧ W.cell? ⟨lb, 6, none⟩ = some (.int .i64 z.fr) ∧ Below wy.heap.size wy W)
                      (first | (with_reducible exact S0.out) | (with_reducible exact S1.out) | (with_reducible exact S2.out) | (with_reducible exact S3.out) | (with_reducible exact S4.out) | (with_reducible exact KA.out _ B10.out) | (with_reducible exact KS) | (with_reducible assumption))
                      (first
                        | (refine step_append_sl _ (by rfl) (.tmp 139) (.tmp 140) 23 (by rfl) wy.heap.size 43 b43 _ 13 120 Tryz.underlying23 hb43 hz0 hz1 hz2 rfl (by decide) _ 0 [] (by rfl) E1.out _ i c (flatC l) (by rfl) ml.out PY1.out P1.out m1.out m2.out BW1.out.size i (Nat.zero_add _).symm ?_; intro A7 c7 w10 hown hb hg hk; have O10 := Lib.hid hown; have B10 := Lib.hid (BW1.out.trans hb);  have KS := KK.out w10 B10.out; clear hown hb hg hk)
                        | (refine step_append_sl _ (by rfl) (.tmp 139) (.tmp 140) 23 (by rfl) wy.heap.size 43 b43 _ 13 120 Tryz.underlying23 hb43 hz0 hz1 hz2 rfl (by decide) _ 0 [] (by rfl) E2.out _ i c (flatC l) (by rfl) ml.out PY2.out P1.out m1.out m2.out BW2.out.size i (Nat.zero_add _).symm ?_; intro A7 c7 w10 hown hb hg hk; have O10 := Lib.hid hown; have B10 := Lib.hid (BW2.out.trans hb); have SB10 := Lib.hid (SBF2.out w10 hg); have KS := KK.out w10 B10.out; clear hown hb hg hk)
                        | (refine step_append_sl _ (by rfl) (.tmp 139) (.tmp 140) 23 (by rfl) wy.heap.size 43 b43 _ 13 120 Tryz.underlying23 hb43 hz0 hz1 hz2 rfl (by decide) _ 0 [] (by rfl) E4.out _ i c (flatC l) (by rfl) ml.out PY4.out P1.out m1.out m2.out BW4.out.size i (Nat.zero_add _).symm ?_; intro A7 c7 w10 hown hb hg hk; have O10 := Lib.hid hown; have B10 := Lib.hid (BW4.out.trans hb); have SB10 := Lib.hid (SBF4.out w10 hg); have KS := KK.out w10 B10.out; clear hown hb hg hk)
                        | (refine step_append_sl _ (by rfl) (.tmp 141) (.tmp 149) 23 (by rfl) wy.heap.size 43 b43 _ 13 120 Tryz.underlying23 hb43 hz0 hz1 hz2 rfl (by decide) _ i (flatC l) (by rfl) (O10.out.alloc _) (some ⟨w10.heap.size, 0, none⟩) 1 1 (flatC [mc]) (by rfl) fm.out (SLB.out w10) fo.out m3.out m4.out (B10.out.alloc B10.out.size _).size (i + 1) rfl ?_; intro A8 c8 w11 hown hb _ _; have O11 := Lib.hid hown; have B11 := Lib.hid ((B10.out.alloc B10.out.size _).trans hb); have KS := KK.out w11 B11.out; clear hown hb)
                        | (refine step_append_sl _ (by rfl) (.tmp 141) (.tmp 149) 23 (by rfl) wy.heap.size 43 b43 _ 13 120 Tryz.underlying23 hb43 hz0 hz1 hz2 rfl (by decide) _ i (flatC l) (by rfl) O10.out (some ⟨wy.heap.size + 1, 0, none⟩) 1 1 (flatC [mc]) (by rfl) fm.out SB10.out fo.out m3.out m4.out B10.out.size (i + 1) rfl ?_; intro A8 c8 w11 hown hb _ _; have O11 := Lib.hid hown; have B11 := Lib.hid ((B10.out).trans hb); have KS := KK.out w11 B11.out; clear hown hb)
                        | (refine step_append_sl _ (by rfl) (.tmp 141) (.tmp 149) 23 (by rfl) wy.heap.size 43 b43 _ 13 120 Tryz.underlying23 hb43 hz0 hz1 hz2 rfl (by decide) _ i (flatC l) (by rfl) O10.out (some ⟨wy.heap.size, 0, none⟩) 1 1 (flatC [mc]) (by rfl) fm.out SB10.out fo.out m3.out m4.out B10.out.size (i + 1) rfl ?_; intro A8 c8 w11 hown hb _ _; have O11 := Lib.hid hown; have B11 := Lib.hid ((B10.out).trans hb); have KS := KK.out w11 B11.out; clear hown hb))
                    all_goals
                      have ML : Hid (i + 1 = (l ++ [mc]).length) := Lib.hid (by rw [List.length_append, List.length_singleton, HNH.out])
                      have OM : Hid (w11.ownsRow wy.heap.size 43 13 (.slice A8 (i + 1) c8) (i + 1) (flatC (l ++ [mc]))) := Lib.hid (by rw [flatC_append]; exact O11.out)
                      have BM := Lib.hid (BY.out.trans (B11.out.mono BY.out.size))
                      have MC : Hid (∀ W, Below w11.heap.size w11 W → Cls W A8 (l ++ [mc])) := Lib.hid fun W hW => (own_cls OM.out (fun r hr => by
                        rcases List.mem_append.1 hr with h | h
                        · exact (HH.out.below BM.out (Nat.le_refl _)).1 r h
                        · rw [List.mem_singleton] at h
                          subst h
                          rw [HMC.out]
                          intro hp; simp at hp)).below hW (Nat.le_refl _)
                      have MIN : Hid (Hs.rightB (l ++ [mc]) = true → ∀ W, Below w11.heap.size w11 W → LIn W G ng g A8 (i + 1) (l ++ [mc])) := Lib.hid fun hr W hW => by
                        have h0 := IN.out W (BM.out.trans (hW.mono BM.out.size))
                        have hx := HO.out
                        refine ⟨h0.hng, ML.out, h0.hg, h0.hr, h0.few, MC.out W hW, fun r hr => ?_, h0.ht, ⟨Hs.right_of hr, by have := ML.out; omega, fun r hr => ?_⟩⟩
                        · rcases List.mem_append.1 hr with h | h
                          · exact Cl.Fits.short (HF.out r h)
                          · rw [List.mem_singleton] at h
                            subst h
                            rw [HMC.out]; simp
                        · rcases List.mem_append.1 hr with h | h
                          · exact Cl.Fits.fine (HF.out r h)
                          · rw [List.mem_singleton] at h
                            subst h
                            rw [HMC.out]
                            unfold Gr.Op.Fine at hx
                            exact ⟨by show _ ∧ _; exact ⟨hx.1, hx.2.1⟩, ⟨hx.2.2.1, hx.2.2.2.1⟩, ⟨hx.2.2.2.2.1, hx.2.2.2.2.2.1⟩, hx.2.2.2.2.2.2⟩
                      have MD16 : Hid (∀ W, Below w11.heap.size w11 W → Calls Tryz.prog 16 #[.slice A8 (i + 1) c8] W fun e w' => e = .returned (.bool (Hs.rightB (l ++ [mc]))) ∧ Below W.heap.size W w') := Lib.hid fun W hW => Hs.refRight_any _ c8 (i + 1) (l ++ [mc]) W ML.out (MC.out W hW) (by have := ML.out; omega)
                      have MD14 : Hid (Hs.rightB (l ++ [mc]) = true → (∃ g', Ends l g g') → ∀ W, Below w11.heap.size w11 W → Calls Tryz.prog 14 #[.slice G ng gc, .slice A8 (i + 1) c8] W fun e w' => e = .returned (.bool true) ∧ Below W.heap.size W w') := Lib.hid fun hr hb W hW => order_says G gc ng g _ c8 (i + 1) (l ++ [mc]) W (MIN.out hr W hW) true ⟨fun _ => by
                        obtain ⟨g', hg'⟩ := hb
                        refine ⟨g', wider_open H17.out ?_ ?_ ?_ hg'⟩
                        · rw [HMC.out]; show o.k ≠ 17; have := HK.out; omega
                        · rw [HMC.out]; exact decide_eq_true (.inl (by show (-1 : Int) < 0; omega))
                        · rw [HMC.out]; exact decide_eq_false (fun q => by have : (0 : Int) ≤ -1 := q.1; omega), fun _ => rfl⟩
                      generalize Hs.rightB (l ++ [mc]) = r3 at MD16 MIN MD14
                      cases r3
                      all_goals
                        try (have HEX : ∃ g', Ends l g g' := by first | exact HBI.out.1 rfl | exact HBI.out.1 trivial | exact HBI.out)
                        try (have MK := Lib.hid (MD14.out rfl HEX))
                        try clear HEX
                        go_wp2_with (first
                          | (go_at_call 16; ((with_reducible refine (MD16.out _ (Below.refl _ _)).mono ?_); rintro e w12 ⟨rfl, hb12⟩; have X12 := Lib.hid hb12; clear hb12))
                          | (go_at_call 14; ((with_reducible refine (MK.out w12 X12.out).mono ?_); rintro e w13 ⟨rfl, hb13⟩; have X13 := Lib.hid (X12.out.trans (hb13.mono X12.out.size)); clear hb13)))
                        go_ret
                        first
                          | exact ⟨by first | rfl | simp, BM.out.trans (X13.out.mono BM.out.size)⟩
                          | exact ⟨by first | rfl | simp, BM.out.trans (X12.out.mono BM.out.size)⟩
                          | exact ⟨by first | rfl | simp, BM.out⟩
end Go.Proofs.YtpdfmfkoopdfgaaGreatDoor
end
