/- LEndsLaw. -/
import Derived.Test.YtpdfmfkoopdfgaaGreatDoorE00
import Derived.Test.YtpdfmfkoopdfgaaGreatDoorB39
import Derived.Test.YtpdfmfkoopdfgaaGreatDoorB38
import Derived.Test.YtpdfmfkoopdfgaaGreatDoorC02
import Derived.Test.YtpdfmfkoopdfgaaGreatDoorC03
import Derived.Test.YtpdfmfkoopdfgaaGreatDoorB20
import Derived.Test.YtpdfmfkoopdfgaaGreatDoorB47
import Derived.Deep.RegionHeld3
import Derived.Deep.QuietTactic
import Derived.BigQuiet
set_option linter.unusedVariables false
set_option linter.unusedSimpArgs false
section
namespace Go.Proofs.YtpdfmfkoopdfgaaGreatDoor
set_option maxRecDepth 100000
open Go.RowKit Aid Gr Hs LinP HeapP

theorem Cl.Fits.fine {a : Cl} (h : a.Fits) : a.Fine := ⟨h.2.2.1, h.2.2.2.1, h.2.2.2.2.1, h.2.2.2.2.2⟩
theorem Cl.Fits.short {a : Cl} (h : a.Fits) : a.list.length ≤ 9223372036854775807 := Nat.le_trans h.1 h.2.1
theorem own_blkC {w : World} {base : Nat} {e : TypeId} {size : Nat} {A : Option Addr} {n c : Nat} {xs : List Value} (h : w.ownsRow base e size (.slice A n c) n xs) (hn : 0 < n) : ∃ gk, A = some ⟨gk, 0, none⟩ ∧ base ≤ gk ∧ gk < w.heap.size := by
  rcases h.2 with ⟨_, h0⟩ | ⟨gk, cap, cur, hv, hg, _⟩
  · omega
  · injection hv with hA _ _
    subst hA
    exact ⟨gk, rfl, hg, (h.lt gk rfl).2⟩
theorem own_lower {w : World} {base base' : Nat} {e : TypeId} {size n : Nat} {v : Value} {xs : List Value} (h : w.ownsRow base e size v n xs) (hb : base' ≤ base) : w.ownsRow base' e size v n xs := by
  obtain ⟨h1, h2⟩ := h
  refine ⟨h1, ?_⟩
  rcases h2 with h2 | ⟨g, cap, cur, hv, hg, h3⟩
  · exact .inl h2
  · exact .inr ⟨g, cap, cur, hv, Nat.le_trans hb hg, h3⟩
theorem flat_cell {w : World} {base gk n c : Nat} {l : List Cl} (h : w.ownsRow base 43 13 (.slice (some ⟨gk, 0, none⟩) n c) n (flatC l)) {q : Nat} {a : Cl} (hq : l[q]? = some a) : ∀ k u, a.cells[k]? = some u → w.cell? ⟨gk, q * 13 + k, none⟩ = some u := fun k u hk => by
  have h1 := flatC_get l hq hk
  obtain ⟨b, off, hA, hc⟩ := own_slk2 h (by have := (List.getElem?_eq_some_iff.1 h1).1; omega)
  cases hA
  have := hc _ u h1
  rwa [Nat.zero_add] at this
theorem later_cells {a : Cl} {y : Int} (h : 0 ≤ a.to) : (later a y).cells = a.cells.set 7 (.int .i64 (a.to + y)) := by
  unfold later
  rw [if_pos h]
  rfl
theorem later_none {a : Cl} {y : Int} (h : ¬ 0 ≤ a.to) : later a y = a := if_neg h
theorem later_keeps (a : Cl) (y : Int) : (later a y).list = a.list ∧ (later a y).A = a.A ∧ (later a y).k = a.k ∧ (later a y).u = a.u ∧ (later a y).v = a.v ∧ (later a y).x = a.x := by
  unfold later
  split <;> exact ⟨rfl, rfl, rfl, rfl, rfl, rfl⟩
/-- What the loop asks of a call. -/
def Calm (c : Cl) : Prop := c.k ≠ 17 ∧ c.fr ≤ 1000000 ∧ c.to ≤ 1000000 ∧ c.era ≤ 1000000
theorem steps_R {ps : List Pt} {g g' : List Arc} {d d' : List Bool} (h : LinP.Steps (sysOf ps) g d g' d') (hr : Gr.R g) : Gr.R g' := by
  induction h with
  | refl => exact hr
  | step i _ _ _ _ _ ih => exact ih (hr.do _)
theorem chain_R {ps : List Pt} {g g' : List Arc} (h : Chain ps g g') (hr : Gr.R g) : Gr.R g' := by
  induction h with
  | done => exact hr
  | era _ ho _ ih =>
    obtain ⟨d, hs, _⟩ := ho
    exact ih (steps_R hs hr)
theorem ends_few {l : List Cl} (h : HistIn l) {g g' : List Arc} (hr : Rises g) (hg : g.length ≤ 10) (he : Ends l g g') : g'.length ≤ 19 ∧ Rises g' := by
  have h1 := chain_len he.2 hr
  have h2 := h.tn
  have h3 := h.few
  exact ⟨by have := h1.1; omega, h1.2⟩
theorem chain_code {fs : List Int} : ∀ (k : Nat) {ps : List Pt}, ps.length ≤ k → PsGood ps fs → ∀ {P : List Arc → Prop} {Bs : (Int → Nat) → List Arc → Prop}, BaseP fs ps P Bs → ∃ Bs', BaseP fs [] (fun g' => ∃ g, P g ∧ Chain ps g g') Bs'
  | k, [], _, _, P, Bs, hB => ⟨Bs, hB.stay, hB.one, fun g' h => by
    obtain ⟨g1, h1, h2⟩ := h
    cases h2 with
    | done => exact hB.all _ h1
    | era h _ _ => exact absurd rfl h⟩
  | 0, p :: ps, h, _, _, _, _ => by simp at h
  | k + 1, p :: ps0, h, hP, P, Bs, hB => by
    have hne : p :: ps0 ≠ [] := by simp
    generalize p :: ps0 = ps at *
    have hpos := eraLen_pos hne
    obtain ⟨B1, h1⟩ := code_next hP hne hB
    obtain ⟨B2, h2⟩ := chain_code k (ps := ps.drop (eraLen ps)) (by rw [List.length_drop]; omega) (hP.sub (List.drop_sublist _ _)) h1
    refine ⟨B2, h2.stay, h2.one, fun g' hg => h2.all g' ?_⟩
    obtain ⟨g, hp, hc⟩ := hg
    cases hc with
    | done => exact absurd rfl hne
    | era _ ho hr => exact ⟨_, ⟨g, hp, ho⟩, hr⟩
theorem ends_bound {l : List Cl} (h : HistIn l) {g : List Arc} {L : List (List Arc)} (hn : L.Nodup) (hm : ∀ x ∈ L, Ends l g x) : L.length ≤ 1000000000000 := by
  have hP := h.points
  obtain ⟨Bs, hB⟩ := chain_code (fs := l.map fun c => c.fr) _ (Nat.le_refl _) hP (P := fun x => x = g) (Bs := fun _ x => x = g) ⟨fun _ _ _ h _ => h, fun _ _ _ _ h1 h2 _ => h1.trans h2.symm, fun x hx => ⟨fun _ => 0, fun _ => Nat.zero_le _, hx⟩⟩
  exact few_graphs hB hP.few L hn (fun x hx => ⟨g, rfl, (hm x hx).2⟩)
theorem sl_cls {w : World} {A : Option Addr} {l : List Cl} (h : Sl w A (flatC l)) (hL : ∀ a ∈ l, Sl w a.A (a.list.map (Value.int .i64))) : Cls w A l := by
  refine ⟨hL, fun hp => ?_⟩
  obtain ⟨b, off, rfl, hc⟩ := h (by rw [flatC_length]; omega)
  exact ⟨b, off, rfl, fun i a hi j v hj => by
    have := hc _ v (flatC_get l hi hj)
    rwa [← Nat.add_assoc] at this⟩
theorem hist_one {x : Cl} (h1 : mayB x = true) (h2 : x.Fine) : HistIn [x] := ⟨fun j b hb => by
  rcases j with _ | j
  · simp at hb; subst hb
    exact ⟨h1, fun k a hk _ => by omega⟩
  · simp at hb, by simp, fun c hc => by rw [List.mem_singleton] at hc; subst hc; exact h2⟩
set_option maxHeartbeats 16000000 in
theorem linEnds_any (G : Option Addr) (gc : Nat) (g : List Arc) (A : Option Addr) (c : Nat) (l : List Cl) (o : Gr.Op) (n : Ans) (B : Option Addr) (q : Nat) (w : World) (hG : Arcs w G g) (hA : Cls w A l) (hF : ∀ a ∈ l, a.Fits) (hl : l.length ≤ c) (hc : c ≤ 9223372036854775807) (ho : o.Fine) (hq : n.list.length ≤ q) (hq2 : q ≤ 9223372036854775807) (hB : Sl w B (n.list.map (Value.int .i64))) (hT : Tab w) :
    Calls Tryz.prog 6 #[.agg #[.slice G g.length gc, .slice A l.length c, .int .i64 o.k, .int .i64 o.u, .int .i64 o.v, .int .u64 o.w, .int .i64 n.err, .bool n.is, .int .i64 n.n, .int .u64 n.w, .slice B n.list.length q]] w fun e w' => e = .returned (.bool true) ∧ Below w.heap.size w w' := by
  obtain ⟨ng, hng⟩ : ∃ ng, ng = g.length := ⟨_, rfl⟩
  obtain ⟨nh, hnh⟩ : ∃ nh, nh = l.length := ⟨_, rfl⟩
  obtain ⟨nl, hnl⟩ : ∃ nl, nl = n.list.length := ⟨_, rfl⟩
  rw [← hng, ← hnh, ← hnl]
  have HNG := Lib.hid hng
  have HNH := Lib.hid hnh
  have HNL := Lib.hid hnl
  have HG := Lib.hid hG
  have HH := Lib.hid hA
  have HF := Lib.hid hF
  have HO := Lib.hid ho
  have HT := Lib.hid hT
  have NB : Hid (nh ≤ 9223372036854775807) := Lib.hid (by omega)
  clear hng hnh hnl hG hA hF hl hc ho hq hq2 hB hT
  have B0 : Hid (Below w.heap.size w (((w.alloc (.cells #[.slice G ng gc, .slice A nh c, .int .i64 o.k, .int .i64 o.u, .int .i64 o.v, .int .u64 o.w, .int .i64 n.err, .bool n.is, .int .i64 n.n, .int .u64 n.w, .slice B nl q] 53)).alloc (.cells #[.int .i64 o.k, .int .i64 o.u, .int .i64 o.v, .int .u64 o.w] 38)).alloc (.cells #[.int .i64 n.err, .bool n.is, .int .i64 n.n, .int .u64 n.w, .slice B nl q] 41))) := Lib.hid ((((Below.refl _ _).alloc (Nat.le_refl _) _).alloc (by rw [World.size_alloc]; omega) _).alloc (by simp only [World.size_alloc]; omega) _)
  have D8 := Lib.hid (shown_any (((w.alloc (.cells #[.slice G ng gc, .slice A nh c, .int .i64 o.k, .int .i64 o.u, .int .i64 o.v, .int .u64 o.w, .int .i64 n.err, .bool n.is, .int .i64 n.n, .int .u64 n.w, .slice B nl q] 53)).alloc (.cells #[.int .i64 o.k, .int .i64 o.u, .int .i64 o.v, .int .u64 o.w] 38)).alloc (.cells #[.int .i64 n.err, .bool n.is, .int .i64 n.n, .int .u64 n.w, .slice B nl q] 41)) (HT.out.below B0.out (Nat.le_refl _)))
  have OV : Hid (∀ W, Below (((w.alloc (.cells #[.slice G ng gc, .slice A nh c, .int .i64 o.k, .int .i64 o.u, .int .i64 o.v, .int .u64 o.w, .int .i64 n.err, .bool n.is, .int .i64 n.n, .int .u64 n.w, .slice B nl q] 53)).alloc (.cells #[.int .i64 o.k, .int .i64 o.u, .int .i64 o.v, .int .u64 o.w] 38)).alloc (.cells #[.int .i64 n.err, .bool n.is, .int .i64 n.n, .int .u64 n.w, .slice B nl q] 41)).heap.size (((w.alloc (.cells #[.slice G ng gc, .slice A nh c, .int .i64 o.k, .int .i64 o.u, .int .i64 o.v, .int .u64 o.w, .int .i64 n.err, .bool n.is, .int .i64 n.n, .int .u64 n.w, .slice B nl q] 53)).alloc (.cells #[.int .i64 o.k, .int .i64 o.u, .int .i64 o.v, .int .u64 o.w] 38)).alloc (.cells #[.int .i64 n.err, .bool n.is, .int .i64 n.n, .int .u64 n.w, .slice B nl q] 41)) W → W.cell? ⟨w.heap.size + 1, 0, none⟩ = some (.int .i64 o.k) ∧ W.cell? ⟨w.heap.size + 1, 1, none⟩ = some (.int .i64 o.u) ∧ W.cell? ⟨w.heap.size + 1, 2, none⟩ = some (.int .i64 o.v) ∧ W.cell? ⟨w.heap.size + 1, 3, none⟩ = some (.int .u64 o.w)) := Lib.hid fun W hW => by
    have hs : (w.alloc (.cells #[.slice G ng gc, .slice A nh c, .int .i64 o.k, .int .i64 o.u, .int .i64 o.v, .int .u64 o.w, .int .i64 n.err, .bool n.is, .int .i64 n.n, .int .u64 n.w, .slice B nl q] 53)).heap.size = w.heap.size + 1 := World.size_alloc _ _
    have hx : Below ((w.alloc (.cells #[.slice G ng gc, .slice A nh c, .int .i64 o.k, .int .i64 o.u, .int .i64 o.v, .int .u64 o.w, .int .i64 n.err, .bool n.is, .int .i64 n.n, .int .u64 n.w, .slice B nl q] 53)).alloc (.cells #[.int .i64 o.k, .int .i64 o.u, .int .i64 o.v, .int .u64 o.w] 38)).heap.size ((w.alloc (.cells #[.slice G ng gc, .slice A nh c, .int .i64 o.k, .int .i64 o.u, .int .i64 o.v, .int .u64 o.w, .int .i64 n.err, .bool n.is, .int .i64 n.n, .int .u64 n.w, .slice B nl q] 53)).alloc (.cells #[.int .i64 o.k, .int .i64 o.u, .int .i64 o.v, .int .u64 o.w] 38)) W := ((Below.refl _ _).alloc (Nat.le_refl _) _).trans (hW.mono (by simp only [World.size_alloc]; omega))
    have at' := fun j => World.cell?_alloc_new (w.alloc (.cells #[.slice G ng gc, .slice A nh c, .int .i64 o.k, .int .i64 o.u, .int .i64 o.v, .int .u64 o.w, .int .i64 n.err, .bool n.is, .int .i64 n.n, .int .u64 n.w, .slice B nl q] 53)) #[.int .i64 o.k, .int .i64 o.u, .int .i64 o.v, .int .u64 o.w] 38 j
    rw [hs] at at'
    exact ⟨cellL ((at' 0).trans rfl) hx, cellL ((at' 1).trans rfl) hx, cellL ((at' 2).trans rfl) hx, cellL ((at' 3).trans rfl) hx⟩
  have NV : Hid (∀ W, Below (((w.alloc (.cells #[.slice G ng gc, .slice A nh c, .int .i64 o.k, .int .i64 o.u, .int .i64 o.v, .int .u64 o.w, .int .i64 n.err, .bool n.is, .int .i64 n.n, .int .u64 n.w, .slice B nl q] 53)).alloc (.cells #[.int .i64 o.k, .int .i64 o.u, .int .i64 o.v, .int .u64 o.w] 38)).alloc (.cells #[.int .i64 n.err, .bool n.is, .int .i64 n.n, .int .u64 n.w, .slice B nl q] 41)).heap.size (((w.alloc (.cells #[.slice G ng gc, .slice A nh c, .int .i64 o.k, .int .i64 o.u, .int .i64 o.v, .int .u64 o.w, .int .i64 n.err, .bool n.is, .int .i64 n.n, .int .u64 n.w, .slice B nl q] 53)).alloc (.cells #[.int .i64 o.k, .int .i64 o.u, .int .i64 o.v, .int .u64 o.w] 38)).alloc (.cells #[.int .i64 n.err, .bool n.is, .int .i64 n.n, .int .u64 n.w, .slice B nl q] 41)) W → W.cell? ⟨w.heap.size + 1 + 1, 0, none⟩ = some (.int .i64 n.err) ∧ W.cell? ⟨w.heap.size + 1 + 1, 1, none⟩ = some (.bool n.is) ∧ W.cell? ⟨w.heap.size + 1 + 1, 2, none⟩ = some (.int .i64 n.n) ∧ W.cell? ⟨w.heap.size + 1 + 1, 3, none⟩ = some (.int .u64 n.w) ∧ W.cell? ⟨w.heap.size + 1 + 1, 4, none⟩ = some (.slice B nl q)) := Lib.hid fun W hW => by
    have hs : ((w.alloc (.cells #[.slice G ng gc, .slice A nh c, .int .i64 o.k, .int .i64 o.u, .int .i64 o.v, .int .u64 o.w, .int .i64 n.err, .bool n.is, .int .i64 n.n, .int .u64 n.w, .slice B nl q] 53)).alloc (.cells #[.int .i64 o.k, .int .i64 o.u, .int .i64 o.v, .int .u64 o.w] 38)).heap.size = w.heap.size + 1 + 1 := by simp only [World.size_alloc]
    have at' := fun j => World.cell?_alloc_new ((w.alloc (.cells #[.slice G ng gc, .slice A nh c, .int .i64 o.k, .int .i64 o.u, .int .i64 o.v, .int .u64 o.w, .int .i64 n.err, .bool n.is, .int .i64 n.n, .int .u64 n.w, .slice B nl q] 53)).alloc (.cells #[.int .i64 o.k, .int .i64 o.u, .int .i64 o.v, .int .u64 o.w] 38)) #[.int .i64 n.err, .bool n.is, .int .i64 n.n, .int .u64 n.w, .slice B nl q] 41 j
    rw [hs] at at'
    exact ⟨cellL ((at' 0).trans rfl) hW, cellL ((at' 1).trans rfl) hW, cellL ((at' 2).trans rfl) hW, cellL ((at' 3).trans rfl) hW, cellL ((at' 4).trans rfl) hW⟩
  have D9 : Hid (g.length ≤ 10 → ∀ W, Below w.heap.size w W → Calls Tryz.prog 9 #[.slice G ng gc] W fun e w' => e = .returned (.bool (Gr.rightB g)) ∧ Below W.heap.size W w') := Lib.hid fun h W hW => Gr.refRight_any G gc ng g W HNG.out (HG.out.below hW (Nat.le_refl _)) (by omega)
  have D10 : Hid (∀ W, Below w.heap.size w W → Calls Tryz.prog 10 #[.slice A nh c, .int .i64 4] W fun e w' => ∃ b : Bool, e = .returned (.bool b) ∧ (b = true → Hs.RightP l ∧ (nh : Int) ≤ 4) ∧ Below W.heap.size W w') := Lib.hid fun W hW => small_any A c nh l 4 W HNH.out (HH.out.below hW (Nat.le_refl _)) NB.out
  go_enter Tryz.func6, Tryz.ntmps6
  go_upto_region 6 with (first
    | (go_at_call 8; ((with_reducible refine D8.out.mono ?_); rintro e w1 ⟨rfl, hb1⟩; have H1 := Lib.hid hb1; have B1 := Lib.hid (B0.out.trans (hb1.mono B0.out.size)); clear hb1)))
  by_cases h10 : (10 : Int) < (ng : Int)
  · have f10 : decide ((10 : Int) < (ng : Int)) = true := decide_eq_true h10
    go_wp2_with (fail)
    go_ret
    exact ⟨rfl, B1.out⟩
  have f10 : decide ((10 : Int) < (ng : Int)) = false := decide_eq_false h10
  have HSM : Hid (g.length ≤ 10) := Lib.hid (by have := HNG.out; omega)
  have D9 := Lib.hid (D9.out HSM.out)
  clear h10
  obtain ⟨r, hr⟩ : ∃ r, Gr.rightB g = r := ⟨_, rfl⟩
  rw [hr] at D9
  have HR := Lib.hid hr
  clear hr
  cases r
  · go_wp2_with (first
      | (go_at_call 9; ((with_reducible refine (D9.out _ B1.out).mono ?_); rintro e w2 ⟨rfl, hb2⟩; have H2 := Lib.hid (H1.out.trans (hb2.mono H1.out.size)); have B2 := Lib.hid (B1.out.trans (hb2.mono B1.out.size)); clear hb2)))
    go_ret
    exact ⟨rfl, B2.out⟩
  have HRG : Hid (Gr.R g) := Lib.hid (R.of (Gr.right_of HR.out))
  by_cases hk1 : o.k < 11
  · have fk1 : decide (o.k < 11) = true := decide_eq_true hk1
    go_wp2_with (first
      | (go_at_call 9; ((with_reducible refine (D9.out _ B1.out).mono ?_); rintro e w2 ⟨rfl, hb2⟩; have H2 := Lib.hid (H1.out.trans (hb2.mono H1.out.size)); have B2 := Lib.hid (B1.out.trans (hb2.mono B1.out.size)); clear hb2))
      | (go_at_call 10; ((with_reducible refine (D10.out _ B2.out).mono ?_); rintro e w3 ⟨b3, rfl, hs3, hb3⟩; have HS3 := Lib.hid hs3; have H3 := Lib.hid (H2.out.trans (hb3.mono H2.out.size)); have B3 := Lib.hid (B2.out.trans (hb3.mono B2.out.size)); have e0 := (OV.out _ H3.out).1; have e4 := (NV.out _ H3.out).2.2.2.2; clear hs3 hb3)))
    all_goals go_ret
    all_goals exact ⟨rfl, B3.out⟩
  have fk1 : decide (o.k < 11) = false := decide_eq_false hk1
  by_cases hk2 : 16 < o.k
  · have fk2 : decide (16 < o.k) = true := decide_eq_true hk2
    go_wp2_with (first
      | (go_at_call 9; ((with_reducible refine (D9.out _ B1.out).mono ?_); rintro e w2 ⟨rfl, hb2⟩; have H2 := Lib.hid (H1.out.trans (hb2.mono H1.out.size)); have B2 := Lib.hid (B1.out.trans (hb2.mono B1.out.size)); clear hb2))
      | (go_at_call 10; ((with_reducible refine (D10.out _ B2.out).mono ?_); rintro e w3 ⟨b3, rfl, hs3, hb3⟩; have HS3 := Lib.hid hs3; have H3 := Lib.hid (H2.out.trans (hb3.mono H2.out.size)); have B3 := Lib.hid (B2.out.trans (hb3.mono B2.out.size)); have e0 := (OV.out _ H3.out).1; have e4 := (NV.out _ H3.out).2.2.2.2; clear hs3 hb3)))
    all_goals go_ret
    all_goals exact ⟨rfl, B3.out⟩
  have fk2 : decide (16 < o.k) = false := decide_eq_false hk2
  have HK : Hid (11 ≤ o.k ∧ o.k ≤ 16) := Lib.hid (by omega)
  clear hk1 hk2
  by_cases hnl : (0 : Int) < (nl : Int)
  · have fnl : decide ((0 : Int) < (nl : Int)) = true := decide_eq_true hnl
    go_wp2_with (first
      | (go_at_call 9; ((with_reducible refine (D9.out _ B1.out).mono ?_); rintro e w2 ⟨rfl, hb2⟩; have H2 := Lib.hid (H1.out.trans (hb2.mono H1.out.size)); have B2 := Lib.hid (B1.out.trans (hb2.mono B1.out.size)); clear hb2))
      | (go_at_call 10; ((with_reducible refine (D10.out _ B2.out).mono ?_); rintro e w3 ⟨b3, rfl, hs3, hb3⟩; have HS3 := Lib.hid hs3; have H3 := Lib.hid (H2.out.trans (hb3.mono H2.out.size)); have B3 := Lib.hid (B2.out.trans (hb3.mono B2.out.size)); have e0 := (OV.out _ H3.out).1; have e4 := (NV.out _ H3.out).2.2.2.2; clear hs3 hb3)))
    all_goals go_ret
    all_goals exact ⟨rfl, B3.out⟩
  have fnl : decide ((0 : Int) < (nl : Int)) = false := decide_eq_false hnl
  obtain rfl : nl = 0 := by omega
  clear hnl
  go_upto_region 7 with (first
    | (go_at_call 9; ((with_reducible refine (D9.out _ B1.out).mono ?_); rintro e w2 ⟨rfl, hb2⟩; have H2 := Lib.hid (H1.out.trans (hb2.mono H1.out.size)); have B2 := Lib.hid (B1.out.trans (hb2.mono B1.out.size)); clear hb2))
    | (go_at_call 10; ((with_reducible refine (D10.out _ B2.out).mono ?_); rintro e w3 ⟨b3, rfl, hs3, hb3⟩; have HS3 := Lib.hid hs3; have H3 := Lib.hid (H2.out.trans (hb3.mono H2.out.size)); have B3 := Lib.hid (B2.out.trans (hb3.mono B2.out.size)); have e0 := (OV.out _ H3.out).1; have e4 := (NV.out _ H3.out).2.2.2.2; clear hs3 hb3)))
  all_goals first | (go_wp2; go_ret; exact ⟨rfl, B3.out⟩) | skip
  have h7 := HS3.out ‹b3 = true›
  have HRT := Lib.hid h7.1
  have n4 : nh ≤ 4 := by omega
  clear h7 e0 e4
  have HHI : Hid (HistIn l) := Lib.hid ⟨HRT.out, by have := HNH.out; omega, fun a ha => Cl.Fits.fine (HF.out a ha)⟩
  have IN : Hid (∀ W, Below w.heap.size w W → LIn W G ng g A nh l) := Lib.hid fun W hW => (LIn.mk HNG.out HNH.out HG.out HRG.out.1 (by have := HSM.out; omega) HH.out (fun a ha => Cl.Fits.short (HF.out a ha)) HT.out HHI.out).below hW (Nat.le_refl _)
  go_loopw [8, 9, 10] (fun x8 x9 x10 wr => ∃ (i : Nat) (z e : Int), i ≤ nh ∧ x8 = .int .i64 z ∧ x9 = .int .i64 e ∧ x10 = .int .i64 i ∧ 0 ≤ z ∧ z ≤ 1000000 ∧ 0 ≤ e ∧ e ≤ 1000000 ∧ (∀ (j : Nat) (a : Cl), j < i → l[j]? = some a → a.k ≠ 17 ∧ a.fr ≤ z ∧ a.to ≤ z ∧ a.era ≤ e) ∧ Below w3.heap.size w3 wr) (fun _ _ x10 _ => nh - (intOf x10).toNat)
  case atStart => exact ⟨0, 0, 0, Nat.zero_le _, rfl, rfl, rfl, by omega, by omega, by omega, by omega, fun j a hj => by omega, Below.refl _ _⟩
  case round =>
    obtain ⟨i, z, e, hi, rfl, rfl, rfl, hz0, hz1, he0, he1, hcalm, hbl⟩ := hrel
    have HCA := Lib.hid hcalm
    have HBL := Lib.hid hbl
    clear hcalm hbl
    obtain ⟨wi, hwi⟩ : ∃ wi, wi = wr := ⟨_, rfl⟩
    subst hwi
    have BI := Lib.hid (B3.out.trans (HBL.out.mono B3.out.size))
    by_cases hlt : i < nh
    · obtain ⟨a, ha⟩ : ∃ a, l[i]? = some a := ⟨l[i]'(by rw [← HNH.out]; exact hlt), List.getElem?_eq_getElem _⟩
      obtain ⟨b, off, hAb, c0, c1, c2, c3, c4, c5, c6, c7, c8, c9, c10, c11, c12⟩ := (HH.out.below BI.out (Nat.le_refl _)).get ha
      subst hAb
      have HQ := Lib.hid ha
      have MY := HHI.out.may (List.mem_of_getElem? ha)
      clear ha c0 c2 c3 c4 c8 c9 c10 c11 c12
      have i0 : (0 : Int) ≤ (i : Int) := by omega
      have i1 : (i : Int) < (nh : Int) := by omega
      have iz : IntKind.i64.wrap ((i : Int) + 1) = (i : Int) + 1 := by rw [IntKind.wrap_i64] <;> omega
      have MYH := Lib.hid MY
      clear MY
      by_cases q2 : 1000000 < a.fr
      · have g2 : decide (1000000 < a.fr) = true := decide_eq_true q2
        clear q2
        go_wp2
        go_ret
        exact ⟨rfl, BI.out⟩
      have g2 : decide (1000000 < a.fr) = false := decide_eq_false q2
      by_cases q3 : 1000000 < a.to
      · have g3 : decide (1000000 < a.to) = true := decide_eq_true q3
        clear q2 q3
        go_wp2
        go_ret
        exact ⟨rfl, BI.out⟩
      have g3 : decide (1000000 < a.to) = false := decide_eq_false q3
      by_cases q4 : 1000000 < a.era
      · have g4 : decide (1000000 < a.era) = true := decide_eq_true q4
        clear q2 q3 q4
        go_wp2
        go_ret
        exact ⟨rfl, BI.out⟩
      have g4 : decide (1000000 < a.era) = false := decide_eq_false q4
      by_cases q1 : a.k = 17
      · have g1 : (a.k == 17) = true := by simpa using q1
        clear q1 q2 q3 q4
        go_wp2
        go_ret
        exact ⟨rfl, BI.out⟩
      have g1 : (a.k == 17) = false := by simpa using q1
      have HQ4 : Hid (a.k ≠ 17 ∧ a.fr ≤ 1000000 ∧ a.to ≤ 1000000 ∧ a.era ≤ 1000000) := Lib.hid ⟨q1, by omega, by omega, by omega⟩
      clear q1 q2 q3 q4
      go_wp2
      go_quiet (fail)
      obtain ⟨z', hz'⟩ : ∃ z', z' = (if (if z < a.fr then a.fr else z) < a.to then a.to else if z < a.fr then a.fr else z) := ⟨_, rfl⟩
      rw [← hz']
      have HZ : Hid (0 ≤ z' ∧ z' ≤ 1000000 ∧ z ≤ z' ∧ a.fr ≤ z' ∧ a.to ≤ z') := Lib.hid (by
        have := HQ4.out
        subst hz'
        split <;> split at * <;> omega)
      clear hz'
      by_cases hee : e < a.era
      all_goals
        go_wp2
        have hz := HZ.out
        have h4 := HQ4.out
        refine ⟨⟨i + 1, z', _, by omega, rfl, rfl, by go_num, hz.1, hz.2.1, by have := MYH.out; omega, by omega, fun j a' hj ha' => ?_, below_drewN HBL.out _⟩, by simp [intOf]; omega⟩
        rcases Nat.lt_or_ge j i with h | h
        · have := HCA.out j a' h ha'
          exact ⟨this.1, by omega, by omega, by omega⟩
        · obtain rfl : j = i := by omega
          rw [HQ.out] at ha'; cases ha'
          exact ⟨h4.1, hz.2.2.2.1, hz.2.2.2.2, by omega⟩
    · obtain rfl : i = nh := by omega
      have ALL : Hid (∀ a ∈ l, a.k ≠ 17 ∧ a.fr ≤ z ∧ a.to ≤ z ∧ a.era ≤ e) := Lib.hid fun a ha => by
        obtain ⟨j, hj, rfl⟩ := List.getElem_of_mem ha
        exact HCA.out j _ (by have := HNH.out; omega) (List.getElem?_eq_getElem hj)
      have H17 : Hid (∀ a ∈ l, a.k ≠ 17) := Lib.hid fun a ha => (ALL.out a ha).1
      have HWI := Lib.hid (H3.out.trans (HBL.out.mono H3.out.size))
      clear HCA
      have D11 := Lib.hid (ends_any G gc ng g A c i l wi (IN.out wi BI.out))
      have D14 : Hid (∀ (W : World) (N : Nat) (zs : List GSl), Below wi.heap.size wi W → N = zs.length → (∀ g', g' ∈ zs.map GSl.l ↔ Ends l g g') → Calls Tryz.prog 14 #[.slice G ng gc, .slice A i c] W fun e w' => e = .returned (.bool (decide ((0 : Int) < (N : Int)))) ∧ Below W.heap.size W w') := Lib.hid fun W N zs hW hk hz => order_says G gc ng g A c i l W (IN.out W (BI.out.trans (hW.mono BI.out.size))) _ (by
        rw [decide_eq_true_iff]
        constructor
        · intro h
          obtain ⟨x, hx⟩ := List.exists_mem_of_length_pos (l := zs) (by omega)
          exact ⟨x.l, (hz x.l).1 (List.mem_map.2 ⟨x, hx, rfl⟩)⟩
        · rintro ⟨x, hx⟩
          have := List.length_pos_of_mem ((hz x).2 hx)
          rw [List.length_map] at this
          omega)
      have we1 : IntKind.i64.wrap (e + 1) = e + 1 := by rw [IntKind.wrap_i64] <;> omega
      have wz1 : IntKind.i64.wrap (z + 1) = z + 1 := by rw [IntKind.wrap_i64] <;> omega
      have wz2 : IntKind.i64.wrap (z + 2) = z + 2 := by rw [IntKind.wrap_i64] <;> omega
      go_upto_region 20 with (first
        | (go_at_call 11; ((with_reducible refine D11.out.mono ?_); rintro e' w4 ⟨Y, yc, ys, rfl, y1, y2, y3, y4⟩; obtain ⟨N, hN⟩ : ∃ N, N = ys.length := ⟨_, rfl⟩; rw [← hN]; have HNY := Lib.hid hN; have Y1 := Lib.hid y1; have Y2 := Lib.hid y2; have Y3 := Lib.hid y3; have Y4 := Lib.hid y4; clear y1 y2 y3 y4 hN))
        | (go_at_call 14; ((with_reducible refine (D14.out w4 N ys Y4.out HNY.out Y3.out).mono ?_); rintro e' w6 ⟨rfl, hb6⟩; have X6 := Lib.hid (Y4.out.trans (hb6.mono Y4.out.size)); have Z6 := Lib.hid (Y1.out.below hb6 (Nat.le_refl _)); clear hb6)))
      have BX6 := Lib.hid (BI.out.trans (X6.out.mono BI.out.size))
      have HX6 := Lib.hid (HWI.out.trans (X6.out.mono HWI.out.size))
      have NBY : Hid (N ≤ 1000000000000) := Lib.hid (by
        have := ends_bound HHI.out (lex_nodup Y2.out) (fun x hx => (Y3.out x).1 hx)
        rw [List.length_map] at this
        have := HNY.out; omega)
      obtain ⟨o0, o1, o2, o3⟩ := OV.out _ HX6.out
      obtain ⟨p0, p1, p2, p3, p4⟩ := NV.out _ HX6.out
      obtain ⟨mc, hmc⟩ : ∃ mc : Cl, mc = ⟨0, o.k, o.u, o.v, o.w, e + 1, z + 1, z + 2, n.err, n.is, n.n, n.w, [], B, q⟩ := ⟨_, rfl⟩
      have HMC := Lib.hid hmc
      have AT : Hid (At (w6.alloc (.cells #[.int .i64 0, .int .i64 o.k, .int .i64 o.u, .int .i64 o.v, .int .u64 o.w, .int .i64 (e + 1), .int .i64 (z + 1), .int .i64 (z + 2), .int .i64 n.err, .bool n.is, .int .i64 n.n, .int .u64 n.w, .slice B 0 q] 43)) w6.heap.size 0 mc) := Lib.hid (by rw [hmc]; exact at_box w6 ⟨0, o.k, o.u, o.v, o.w, e + 1, z + 1, z + 2, n.err, n.is, n.n, n.w, [], B, q⟩)
      clear hmc
      have BY7 := Lib.hid (BX6.out.alloc BX6.out.size (.cells #[.int .i64 0, .int .i64 o.k, .int .i64 o.u, .int .i64 o.v, .int .u64 o.w, .int .i64 (e + 1), .int .i64 (z + 1), .int .i64 (z + 2), .int .i64 n.err, .bool n.is, .int .i64 n.n, .int .u64 n.w, .slice B 0 q] 43))
      have X7 := Lib.hid (X6.out.alloc X6.out.size (.cells #[.int .i64 0, .int .i64 o.k, .int .i64 o.u, .int .i64 o.v, .int .u64 o.w, .int .i64 (e + 1), .int .i64 (z + 1), .int .i64 (z + 2), .int .i64 n.err, .bool n.is, .int .i64 n.n, .int .u64 n.w, .slice B 0 q] 43))
      have Z7 := Lib.hid (Z6.out.below ((Below.refl w6.heap.size w6).alloc (Nat.le_refl _) (.cells #[.int .i64 0, .int .i64 o.k, .int .i64 o.u, .int .i64 o.v, .int .u64 o.w, .int .i64 (e + 1), .int .i64 (z + 1), .int .i64 (z + 2), .int .i64 n.err, .bool n.is, .int .i64 n.n, .int .u64 n.w, .slice B 0 q] 43)) (Nat.le_refl _))
      go_upto_region 22 with (fail)
      clear o0 o1 o2 o3 p0 p1 p2 p3 p4
      obtain ⟨cb, hcb⟩ : ∃ cb, cb = w6.heap.size := ⟨_, rfl⟩
      rw [← hcb] at AT ⊢
      clear hcb
      generalize w6.alloc (.cells #[.int .i64 0, .int .i64 o.k, .int .i64 o.u, .int .i64 o.v, .int .u64 o.w, .int .i64 (e + 1), .int .i64 (z + 1), .int .i64 (z + 2), .int .i64 n.err, .bool n.is, .int .i64 n.n, .int .u64 n.w, .slice B 0 q] 43) = w7 at *
      have HXM : Hid (mayB mc = true) := Lib.hid (by
        rw [HMC.out]
        have := HK.out
        unfold mayB
        exact decide_eq_true ⟨by show (11 : Int) ≤ o.k; omega, by show o.k ≤ 17; omega, by show (0 : Int) ≤ 0; omega, by show (0 : Int) < 64; omega, by show 0 ≤ e + 1; omega, by show 0 ≤ z + 1; omega, .inr (by show z + 1 < z + 2; omega)⟩)
      have HXF : Hid (mc.Fine) := Lib.hid (by
        rw [HMC.out]
        have hx := HO.out
        unfold Gr.Op.Fine at hx
        exact ⟨⟨hx.1, hx.2.1⟩, ⟨hx.2.2.1, hx.2.2.2.1⟩, ⟨hx.2.2.2.2.1, hx.2.2.2.2.2.1⟩, hx.2.2.2.2.2.2⟩)
      have HX17 : Hid (mc.k ≠ 17) := Lib.hid (by rw [HMC.out]; show o.k ≠ 17; have := HK.out; omega)
      have HXE : Hid (∀ a ∈ l, a.era < mc.era) := Lib.hid fun a ha => by rw [HMC.out]; show a.era < e + 1; have := (ALL.out a ha).2.2.2; omega
      have HXL : Hid (mc.list = []) := Lib.hid (by rw [HMC.out])
      have CB : Hid (∀ W, Below w7.heap.size w7 W → W.cell? ⟨cb, 0, none⟩ = some (.int .i64 0) ∧ W.cell? ⟨cb, 1, none⟩ = some (.int .i64 o.k) ∧ W.cell? ⟨cb, 2, none⟩ = some (.int .i64 o.u) ∧ W.cell? ⟨cb, 3, none⟩ = some (.int .i64 o.v) ∧ W.cell? ⟨cb, 4, none⟩ = some (.int .u64 o.w) ∧ W.cell? ⟨cb, 5, none⟩ = some (.int .i64 (e + 1)) ∧ W.cell? ⟨cb, 6, none⟩ = some (.int .i64 (z + 1)) ∧ W.cell? ⟨cb, 7, none⟩ = some (.int .i64 (z + 2)) ∧ W.cell? ⟨cb, 8, none⟩ = some (.int .i64 n.err) ∧ W.cell? ⟨cb, 9, none⟩ = some (.bool n.is) ∧ W.cell? ⟨cb, 10, none⟩ = some (.int .i64 n.n) ∧ W.cell? ⟨cb, 11, none⟩ = some (.int .u64 n.w) ∧ W.cell? ⟨cb, 12, none⟩ = some (.slice B 0 q)) := Lib.hid fun W hW => by
        have h := AT.out.below hW (Nat.le_refl _)
        rw [HMC.out] at h
        simpa [At] using h
      have XCL : Hid (∀ (W : World) (k : Nat), W.heap.size = k → Cls (W.alloc (.cells #[.int .i64 0, .int .i64 o.k, .int .i64 o.u, .int .i64 o.v, .int .u64 o.w, .int .i64 (e + 1), .int .i64 (z + 1), .int .i64 (z + 2), .int .i64 n.err, .bool n.is, .int .i64 n.n, .int .u64 n.w, .slice B 0 q] 43)) (some ⟨k, 0, none⟩) [mc]) := Lib.hid fun W k hk => by
        subst hk
        rw [HMC.out]
        exact sl_cls (sl_call W ⟨0, o.k, o.u, o.v, o.w, e + 1, z + 1, z + 2, n.err, n.is, n.n, n.w, [], B, q⟩) (fun a ha => by rw [List.mem_singleton] at ha; subst ha; intro hp; simp at hp)
      go_wp2
      go_loopw [13, 14] (fun x13 x14 wr => ∃ (i : Nat) (b : Bool), i ≤ N ∧ x13 = .bool b ∧ x14 = .int .i64 i ∧ (b = true ↔ ∃ (j : Nat) (y : GSl), j < i ∧ ys[j]? = some y ∧ ∃ g', Ends [mc] y.l g') ∧ Below w7.heap.size w7 wr) (fun _ x14 _ => N - (intOf x14).toNat)
      case atStart => exact ⟨0, false, Nat.zero_le _, rfl, rfl, ⟨fun h => (by cases h), fun ⟨j, y, hj, _⟩ => (by omega)⟩, Below.refl _ _⟩
      case round =>
        obtain ⟨k, b, hk, rfl, rfl, hb, hbl⟩ := hrel
        have HBB := Lib.hid hb
        have HBK := Lib.hid hbl
        clear hb hbl
        obtain ⟨wk, hwk⟩ : ∃ wk, wk = wr := ⟨_, rfl⟩
        subst hwk
        by_cases hlt : k < N
        · obtain ⟨y, hy⟩ : ∃ y, ys[k]? = some y := ⟨ys[k]'(by rw [← HNY.out]; exact hlt), List.getElem?_eq_getElem _⟩
          obtain ⟨fb, fo, hY, cy⟩ := (Z7.out.below HBK.out (Nat.le_refl _)).cell hy
          subst hY
          have HYM := Lib.hid (List.mem_of_getElem? hy)
          have HYK := Lib.hid hy
          have HYE : Hid (Ends l g y.l) := Lib.hid ((Y3.out y.l).1 (List.mem_map.2 ⟨y, List.mem_of_getElem? hy, rfl⟩))
          have HYF := Lib.hid (ends_few HHI.out HRG.out.1 HSM.out HYE.out)
          have HYR : Hid (Gr.rightB y.l = true) := Lib.hid (chain_R HYE.out.2 HRG.out).right
          have HYA := Lib.hid ((Z7.out.below HBK.out (Nat.le_refl _)).2 y (List.mem_of_getElem? hy)).1
          have BK := Lib.hid (BY7.out.trans (HBK.out.mono BY7.out.size))
          clear hy
          have D9y : Hid (Calls Tryz.prog 9 #[.slice y.A y.l.length y.c] wk fun e w' => e = .returned (.bool true) ∧ Below wk.heap.size wk w') := Lib.hid (by
            have := Gr.refRight_any y.A y.c _ y.l wk rfl HYA.out (by have := HYF.out.1; omega)
            rw [HYR.out] at this
            exact this)
          have i0 : (0 : Int) ≤ (k : Int) := by omega
          have i1 : (k : Int) < (N : Int) := by omega
          have iz : IntKind.i64.wrap ((k : Int) + 1) = (k : Int) + 1 := by have := NBY.out; rw [IntKind.wrap_i64] <;> omega
          have LY : Hid (∀ (W : World) (j : Nat), Below wk.heap.size wk W → W.heap.size = j → LIn (W.alloc (.cells #[.int .i64 0, .int .i64 o.k, .int .i64 o.u, .int .i64 o.v, .int .u64 o.w, .int .i64 (e + 1), .int .i64 (z + 1), .int .i64 (z + 2), .int .i64 n.err, .bool n.is, .int .i64 n.n, .int .u64 n.w, .slice B 0 q] 43)) y.A y.l.length y.l (some ⟨j, 0, none⟩) 1 [mc]) := Lib.hid fun W j hW hj => by
            have hal : Below wk.heap.size wk (W.alloc (.cells #[.int .i64 0, .int .i64 o.k, .int .i64 o.u, .int .i64 o.v, .int .u64 o.w, .int .i64 (e + 1), .int .i64 (z + 1), .int .i64 (z + 2), .int .i64 n.err, .bool n.is, .int .i64 n.n, .int .u64 n.w, .slice B 0 q] 43)) := hW.alloc hW.size _
            exact ⟨rfl, rfl, HYA.out.below hal (Nat.le_refl _), HYF.out.2, by have := HYF.out.1; omega, XCL.out W j hj, fun a ha => (by rw [List.mem_singleton] at ha; subst ha; rw [HXL.out]; simp), HT.out.below (BK.out.trans (hal.mono BK.out.size)) (Nat.le_refl _), hist_one HXM.out HXF.out⟩
          cases b
          · obtain ⟨b2, hb2⟩ : ∃ b2 : Bool, b2 = true ↔ ∃ g', Ends [mc] y.l g' := by classical exact ⟨decide _, decide_eq_true_iff⟩
            have HB2 := Lib.hid hb2
            clear hb2
            have HNEW : Hid (b2 = true ↔ ∃ (j : Nat) (y' : GSl), j < k + 1 ∧ ys[j]? = some y' ∧ ∃ g', Ends [mc] y'.l g') := Lib.hid (by
              rw [HB2.out]
              constructor
              · intro h
                exact ⟨k, y, by omega, HYK.out, h⟩
              · rintro ⟨j, y', hj, hy', h⟩
                rcases Nat.lt_or_ge j k with q' | q'
                · exact absurd (HBB.out.2 ⟨j, y', q', hy', h⟩) (by decide)
                · obtain rfl : j = k := by omega
                  rw [HYK.out] at hy'; cases hy'; exact h)
            have D14y : Hid (∀ (W : World) (j : Nat), Below wk.heap.size wk W → W.heap.size = j → ∀ W', W' = (W.alloc (.cells #[.int .i64 0, .int .i64 o.k, .int .i64 o.u, .int .i64 o.v, .int .u64 o.w, .int .i64 (e + 1), .int .i64 (z + 1), .int .i64 (z + 2), .int .i64 n.err, .bool n.is, .int .i64 n.n, .int .u64 n.w, .slice B 0 q] 43)).drew → Calls Tryz.prog 14 #[.slice y.A y.l.length y.c, .slice (some ⟨j, 0, none⟩) 1 1] W' fun e w' => e = .returned (.bool b2) ∧ Below W'.heap.size W' w') := Lib.hid fun W j hW hj W' hW' => by
              subst hW'
              exact order_says y.A y.c _ y.l _ 1 1 [mc] _ ((LY.out W j hW hj).below (Below.refl _ _).drew (Nat.le_refl _)) b2 HB2.out
            go_upto_region 27 with (go_at_call 9; ((with_reducible refine D9y.out.mono ?_); rintro e' w8 ⟨rfl, hb8⟩; have X8 := Lib.hid hb8; clear hb8))
            have KK : Hid (∀ W : World, Below w8.heap.size w8 W → W.cell? ⟨fb, fo + k, none⟩ = some (.slice y.A y.l.length y.c) ∧ W.cell? ⟨cb, 0, none⟩ = some (.int .i64 0) ∧ W.cell? ⟨cb, 1, none⟩ = some (.int .i64 o.k) ∧ W.cell? ⟨cb, 2, none⟩ = some (.int .i64 o.u) ∧ W.cell? ⟨cb, 3, none⟩ = some (.int .i64 o.v) ∧ W.cell? ⟨cb, 4, none⟩ = some (.int .u64 o.w) ∧ W.cell? ⟨cb, 5, none⟩ = some (.int .i64 (e + 1)) ∧ W.cell? ⟨cb, 6, none⟩ = some (.int .i64 (z + 1)) ∧ W.cell? ⟨cb, 7, none⟩ = some (.int .i64 (z + 2)) ∧ W.cell? ⟨cb, 8, none⟩ = some (.int .i64 n.err) ∧ W.cell? ⟨cb, 9, none⟩ = some (.bool n.is) ∧ W.cell? ⟨cb, 10, none⟩ = some (.int .i64 n.n) ∧ W.cell? ⟨cb, 11, none⟩ = some (.int .u64 n.w) ∧ W.cell? ⟨cb, 12, none⟩ = some (.slice B 0 q) ∧ Below w8.heap.size w8 W) := Lib.hid fun W hW => by
              obtain ⟨q0, q1, q2, q3, q4, q5, q6, q7, q8, q9, q10, q11, q12⟩ := CB.out W ((HBK.out.trans (X8.out.mono HBK.out.size)).trans (hW.mono (Nat.le_trans HBK.out.size X8.out.size)))
              exact ⟨cellL (cellL cy X8.out) hW, q0, q1, q2, q3, q4, q5, q6, q7, q8, q9, q10, q11, q12, hW⟩
            have S0 := Lib.hid (KK.out _ (Below.refl _ _).drew)
            have S1 := Lib.hid (KK.out _ ((Below.refl w8.heap.size w8).alloc (Nat.le_refl _) (.cells #[.int .i64 0, .int .i64 o.k, .int .i64 o.u, .int .i64 o.v, .int .u64 o.w, .int .i64 (e + 1), .int .i64 (z + 1), .int .i64 (z + 2), .int .i64 n.err, .bool n.is, .int .i64 n.n, .int .u64 n.w, .slice B 0 q] 43)).drew)
            have DX := Lib.hid (D14y.out w8 w8.heap.size X8.out rfl _ rfl)
            go_region_held3 (fun W => W.cell? ⟨fb, fo + k, none⟩ = some (.slice y.A y.l.length y.c) ∧ W.cell? ⟨cb, 0, none⟩ = some (.int .i64 0) ∧ W.cell? ⟨cb, 1, none⟩ = some (.int .i64 o.k) ∧ W.cell? ⟨cb, 2, none⟩ = some (.int .i64 o.u) ∧ W.cell? ⟨cb, 3, none⟩ = some (.int .i64 o.v) ∧ W.cell? ⟨cb, 4, none⟩ = some (.int .u64 o.w) ∧ W.cell? ⟨cb, 5, none⟩ = some (.int .i64 (e + 1)) ∧ W.cell? ⟨cb, 6, none⟩ = some (.int .i64 (z + 1)) ∧ W.cell? ⟨cb, 7, none⟩ = some (.int .i64 (z + 2)) ∧ W.cell? ⟨cb, 8, none⟩ = some (.int .i64 n.err) ∧ W.cell? ⟨cb, 9, none⟩ = some (.bool n.is) ∧ W.cell? ⟨cb, 10, none⟩ = some (.int .i64 n.n) ∧ W.cell? ⟨cb, 11, none⟩ = some (.int .u64 n.w) ∧ W.cell? ⟨cb, 12, none⟩ = some (.slice B 0 q) ∧ Below w8.heap.size w8 W)
              (first | (with_reducible exact S0.out) | (with_reducible exact S1.out) | (with_reducible exact KS) | (with_reducible assumption))
              (first | (go_at_call 14; ((with_reducible refine DX.out.mono ?_); rintro e' w9 ⟨rfl, hb9⟩; have X9 := Lib.hid (S1.out.2.2.2.2.2.2.2.2.2.2.2.2.2.2.trans (hb9.mono S1.out.2.2.2.2.2.2.2.2.2.2.2.2.2.2.size)); have KS := KK.out w9 X9.out; clear hb9)))
            clear KS
            go_wp2
            refine ⟨⟨k + 1, b2, by omega, by first | rfl | trivial, by first | go_num | trivial, HNEW.out, HBK.out.trans ((X8.out.trans (X9.out.mono X8.out.size)).mono HBK.out.size)⟩, by simp [intOf]; omega⟩
          · have HNEW : Hid (∃ (j : Nat) (y' : GSl), j < k + 1 ∧ ys[j]? = some y' ∧ ∃ g', Ends [mc] y'.l g') := Lib.hid (by
              obtain ⟨j, y', h1, h2⟩ := HBB.out.1 rfl
              exact ⟨j, y', by omega, h2⟩)
            have BDN : Hid (∀ (W : World), Below wk.heap.size wk W → ∀ r, Below w7.heap.size w7 (W.drewN r)) := Lib.hid fun W hW r => below_drewN (HBK.out.trans (hW.mono HBK.out.size)) r
            go_upto_region 27 with (go_at_call 9; ((with_reducible refine D9y.out.mono ?_); rintro e' w8 ⟨rfl, hb8⟩; have X8 := Lib.hid hb8; clear hb8))
            go_quiet (fail)
            go_wp2
            refine ⟨⟨k + 1, true, by omega, by first | rfl | trivial, by first | go_num | trivial, ⟨fun _ => HNEW.out, fun _ => rfl⟩, BDN.out _ X8.out _⟩, by simp [intOf]; omega⟩
        · obtain rfl : k = N := by omega
          have FIN : Hid (b = true ↔ ∃ g', Ends (l ++ [mc]) g g') := Lib.hid (by
            rw [HBB.out]
            constructor
            · rintro ⟨j, y, _, hy, g', h⟩
              exact ⟨g', (ends_behind H17.out HX17.out HXE.out).2 ⟨y.l, (Y3.out y.l).1 (List.mem_map.2 ⟨y, List.mem_of_getElem? hy, rfl⟩), h⟩⟩
            · rintro ⟨g', h⟩
              obtain ⟨m, h1, h2⟩ := (ends_behind H17.out HX17.out HXE.out).1 h
              obtain ⟨y, hy, rfl⟩ := List.mem_map.1 ((Y3.out m).2 h1)
              obtain ⟨j, hj, rfl⟩ := List.getElem_of_mem hy
              exact ⟨j, _, by have := HNY.out; omega, List.getElem?_eq_getElem hj, g', h2⟩)
          obtain ⟨wy, hwy⟩ : ∃ wy, wy = wk := ⟨_, rfl⟩
          subst hwy
          have BY := Lib.hid (BY7.out.trans (HBK.out.mono BY7.out.size))
          obtain ⟨b43, hb43, hz0', hz1', hz2'⟩ := info_parts call_info
          have PL := Lib.hid (flatC_length l)
          have P1 := Lib.hid (flatC_one l)
          have PS : Hid (∀ W, Below w.heap.size w W → Sl W A (flatC l)) := Lib.hid fun W hW => cls_sl (HH.out.below hW (Nat.le_refl _))
          have m1 : Hid (0 + i ≤ maxLen) := Lib.hid (by unfold maxLen; omega)
          have m2 : Hid ((0 + i) * 120 ≤ 140737488355328) := Lib.hid (by omega)
          have ml : Hid ((flatC l).length = i * 13) := Lib.hid (by rw [PL.out, HNH.out])
          have KK : Hid (∀ W : World, Below wy.heap.size wy W → W.cell? ⟨cb, 0, none⟩ = some (.int .i64 0) ∧ W.cell? ⟨cb, 1, none⟩ = some (.int .i64 o.k) ∧ W.cell? ⟨cb, 2, none⟩ = some (.int .i64 o.u) ∧ W.cell? ⟨cb, 3, none⟩ = some (.int .i64 o.v) ∧ W.cell? ⟨cb, 4, none⟩ = some (.int .u64 o.w) ∧ W.cell? ⟨cb, 5, none⟩ = some (.int .i64 (e + 1)) ∧ W.cell? ⟨cb, 6, none⟩ = some (.int .i64 (z + 1)) ∧ W.cell? ⟨cb, 7, none⟩ = some (.int .i64 (z + 2)) ∧ W.cell? ⟨cb, 8, none⟩ = some (.int .i64 n.err) ∧ W.cell? ⟨cb, 9, none⟩ = some (.bool n.is) ∧ W.cell? ⟨cb, 10, none⟩ = some (.int .i64 n.n) ∧ W.cell? ⟨cb, 11, none⟩ = some (.int .u64 n.w) ∧ W.cell? ⟨cb, 12, none⟩ = some (.slice B 0 q) ∧ Below wy.heap.size wy W) := Lib.hid fun W hW => by
            obtain ⟨q0, q1, q2, q3, q4, q5, q6, q7, q8, q9, q10, q11, q12⟩ := CB.out W (HBK.out.trans (hW.mono HBK.out.size))
            exact ⟨q0, q1, q2, q3, q4, q5, q6, q7, q8, q9, q10, q11, q12, hW⟩
          have BW1 : Hid (Below wy.heap.size wy (wy.alloc (.cells #[] 43)).drew) := Lib.hid ((Below.refl _ _).alloc (Nat.le_refl _) _).drew
          have BW2 : Hid (Below wy.heap.size wy ((wy.alloc (.cells #[] 43)).alloc (.cells #[.int .i64 0, .int .i64 o.k, .int .i64 o.u, .int .i64 o.v, .int .u64 o.w, .int .i64 (e + 1), .int .i64 (z + 1), .int .i64 (z + 2), .int .i64 n.err, .bool n.is, .int .i64 n.n, .int .u64 n.w, .slice B 0 q] 43)).drew) := Lib.hid (((Below.refl _ _).alloc (Nat.le_refl _) _).alloc (by rw [World.size_alloc]; omega) _).drew
          have BW3 : Hid (Below wy.heap.size wy (wy.alloc (.cells #[.int .i64 0, .int .i64 o.k, .int .i64 o.u, .int .i64 o.v, .int .u64 o.w, .int .i64 (e + 1), .int .i64 (z + 1), .int .i64 (z + 2), .int .i64 n.err, .bool n.is, .int .i64 n.n, .int .u64 n.w, .slice B 0 q] 43)).drew) := Lib.hid ((Below.refl _ _).alloc (Nat.le_refl _) _).drew
          have BW4 : Hid (Below wy.heap.size wy ((wy.alloc (.cells #[.int .i64 0, .int .i64 o.k, .int .i64 o.u, .int .i64 o.v, .int .u64 o.w, .int .i64 (e + 1), .int .i64 (z + 1), .int .i64 (z + 2), .int .i64 n.err, .bool n.is, .int .i64 n.n, .int .u64 n.w, .slice B 0 q] 43)).alloc (.cells #[] 43)).drew) := Lib.hid (((Below.refl _ _).alloc (Nat.le_refl _) _).alloc (by rw [World.size_alloc]; omega) _).drew
          have S0 := Lib.hid (KK.out _ (Below.refl _ _).drew)
          have S1 := Lib.hid (KK.out _ BW1.out)
          have S2 := Lib.hid (KK.out _ BW2.out)
          have S3 := Lib.hid (KK.out _ BW3.out)
          have S4 := Lib.hid (KK.out _ BW4.out)
          have KA : Hid (∀ W : World, Below wy.heap.size wy W → (W.alloc (.cells #[.int .i64 0, .int .i64 o.k, .int .i64 o.u, .int .i64 o.v, .int .u64 o.w, .int .i64 (e + 1), .int .i64 (z + 1), .int .i64 (z + 2), .int .i64 n.err, .bool n.is, .int .i64 n.n, .int .u64 n.w, .slice B 0 q] 43)).cell? ⟨cb, 0, none⟩ = some (.int .i64 0) ∧ (W.alloc (.cells #[.int .i64 0, .int .i64 o.k, .int .i64 o.u, .int .i64 o.v, .int .u64 o.w, .int .i64 (e + 1), .int .i64 (z + 1), .int .i64 (z + 2), .int .i64 n.err, .bool n.is, .int .i64 n.n, .int .u64 n.w, .slice B 0 q] 43)).cell? ⟨cb, 1, none⟩ = some (.int .i64 o.k) ∧ (W.alloc (.cells #[.int .i64 0, .int .i64 o.k, .int .i64 o.u, .int .i64 o.v, .int .u64 o.w, .int .i64 (e + 1), .int .i64 (z + 1), .int .i64 (z + 2), .int .i64 n.err, .bool n.is, .int .i64 n.n, .int .u64 n.w, .slice B 0 q] 43)).cell? ⟨cb, 2, none⟩ = some (.int .i64 o.u) ∧ (W.alloc (.cells #[.int .i64 0, .int .i64 o.k, .int .i64 o.u, .int .i64 o.v, .int .u64 o.w, .int .i64 (e + 1), .int .i64 (z + 1), .int .i64 (z + 2), .int .i64 n.err, .bool n.is, .int .i64 n.n, .int .u64 n.w, .slice B 0 q] 43)).cell? ⟨cb, 3, none⟩ = some (.int .i64 o.v) ∧ (W.alloc (.cells #[.int .i64 0, .int .i64 o.k, .int .i64 o.u, .int .i64 o.v, .int .u64 o.w, .int .i64 (e + 1), .int .i64 (z + 1), .int .i64 (z + 2), .int .i64 n.err, .bool n.is, .int .i64 n.n, .int .u64 n.w, .slice B 0 q] 43)).cell? ⟨cb, 4, none⟩ = some (.int .u64 o.w) ∧ (W.alloc (.cells #[.int .i64 0, .int .i64 o.k, .int .i64 o.u, .int .i64 o.v, .int .u64 o.w, .int .i64 (e + 1), .int .i64 (z + 1), .int .i64 (z + 2), .int .i64 n.err, .bool n.is, .int .i64 n.n, .int .u64 n.w, .slice B 0 q] 43)).cell? ⟨cb, 5, none⟩ = some (.int .i64 (e + 1)) ∧ (W.alloc (.cells #[.int .i64 0, .int .i64 o.k, .int .i64 o.u, .int .i64 o.v, .int .u64 o.w, .int .i64 (e + 1), .int .i64 (z + 1), .int .i64 (z + 2), .int .i64 n.err, .bool n.is, .int .i64 n.n, .int .u64 n.w, .slice B 0 q] 43)).cell? ⟨cb, 6, none⟩ = some (.int .i64 (z + 1)) ∧ (W.alloc (.cells #[.int .i64 0, .int .i64 o.k, .int .i64 o.u, .int .i64 o.v, .int .u64 o.w, .int .i64 (e + 1), .int .i64 (z + 1), .int .i64 (z + 2), .int .i64 n.err, .bool n.is, .int .i64 n.n, .int .u64 n.w, .slice B 0 q] 43)).cell? ⟨cb, 7, none⟩ = some (.int .i64 (z + 2)) ∧ (W.alloc (.cells #[.int .i64 0, .int .i64 o.k, .int .i64 o.u, .int .i64 o.v, .int .u64 o.w, .int .i64 (e + 1), .int .i64 (z + 1), .int .i64 (z + 2), .int .i64 n.err, .bool n.is, .int .i64 n.n, .int .u64 n.w, .slice B 0 q] 43)).cell? ⟨cb, 8, none⟩ = some (.int .i64 n.err) ∧ (W.alloc (.cells #[.int .i64 0, .int .i64 o.k, .int .i64 o.u, .int .i64 o.v, .int .u64 o.w, .int .i64 (e + 1), .int .i64 (z + 1), .int .i64 (z + 2), .int .i64 n.err, .bool n.is, .int .i64 n.n, .int .u64 n.w, .slice B 0 q] 43)).cell? ⟨cb, 9, none⟩ = some (.bool n.is) ∧ (W.alloc (.cells #[.int .i64 0, .int .i64 o.k, .int .i64 o.u, .int .i64 o.v, .int .u64 o.w, .int .i64 (e + 1), .int .i64 (z + 1), .int .i64 (z + 2), .int .i64 n.err, .bool n.is, .int .i64 n.n, .int .u64 n.w, .slice B 0 q] 43)).cell? ⟨cb, 10, none⟩ = some (.int .i64 n.n) ∧ (W.alloc (.cells #[.int .i64 0, .int .i64 o.k, .int .i64 o.u, .int .i64 o.v, .int .u64 o.w, .int .i64 (e + 1), .int .i64 (z + 1), .int .i64 (z + 2), .int .i64 n.err, .bool n.is, .int .i64 n.n, .int .u64 n.w, .slice B 0 q] 43)).cell? ⟨cb, 11, none⟩ = some (.int .u64 n.w) ∧ (W.alloc (.cells #[.int .i64 0, .int .i64 o.k, .int .i64 o.u, .int .i64 o.v, .int .u64 o.w, .int .i64 (e + 1), .int .i64 (z + 1), .int .i64 (z + 2), .int .i64 n.err, .bool n.is, .int .i64 n.n, .int .u64 n.w, .slice B 0 q] 43)).cell? ⟨cb, 12, none⟩ = some (.slice B 0 q) ∧ Below wy.heap.size wy (W.alloc (.cells #[.int .i64 0, .int .i64 o.k, .int .i64 o.u, .int .i64 o.v, .int .u64 o.w, .int .i64 (e + 1), .int .i64 (z + 1), .int .i64 (z + 2), .int .i64 n.err, .bool n.is, .int .i64 n.n, .int .u64 n.w, .slice B 0 q] 43))) := Lib.hid fun W hW => KK.out _ (hW.alloc hW.size _)
          have E1 : Hid ((wy.alloc (.cells #[] 43)).drew.ownsRow wy.heap.size 43 13 (.slice (some ⟨wy.heap.size, 0, none⟩) 0 0) 0 []) := Lib.hid (own_emptyC wy)
          have E2 : Hid (((wy.alloc (.cells #[] 43)).alloc (.cells #[.int .i64 0, .int .i64 o.k, .int .i64 o.u, .int .i64 o.v, .int .u64 o.w, .int .i64 (e + 1), .int .i64 (z + 1), .int .i64 (z + 2), .int .i64 n.err, .bool n.is, .int .i64 n.n, .int .u64 n.w, .slice B 0 q] 43)).drew.ownsRow wy.heap.size 43 13 (.slice (some ⟨wy.heap.size, 0, none⟩) 0 0) 0 []) := Lib.hid ((own_emptyC wy).alloc _)
          have E4 : Hid (((wy.alloc (.cells #[.int .i64 0, .int .i64 o.k, .int .i64 o.u, .int .i64 o.v, .int .u64 o.w, .int .i64 (e + 1), .int .i64 (z + 1), .int .i64 (z + 2), .int .i64 n.err, .bool n.is, .int .i64 n.n, .int .u64 n.w, .slice B 0 q] 43)).alloc (.cells #[] 43)).drew.ownsRow wy.heap.size 43 13 (.slice (some ⟨wy.heap.size + 1, 0, none⟩) 0 0) 0 []) := Lib.hid (by
            have h := own_emptyC (wy.alloc (.cells #[.int .i64 0, .int .i64 o.k, .int .i64 o.u, .int .i64 o.v, .int .u64 o.w, .int .i64 (e + 1), .int .i64 (z + 1), .int .i64 (z + 2), .int .i64 n.err, .bool n.is, .int .i64 n.n, .int .u64 n.w, .slice B 0 q] 43))
            rw [World.size_alloc] at h
            exact own_lower h (by omega))
          have PY1 := Lib.hid (PS.out _ (BY.out.trans (BW1.out.mono BY.out.size)))
          have PY2 := Lib.hid (PS.out _ (BY.out.trans (BW2.out.mono BY.out.size)))
          have PY4 := Lib.hid (PS.out _ (BY.out.trans (BW4.out.mono BY.out.size)))
          have SLB : Hid (∀ W : World, Sl (W.alloc (.cells #[.int .i64 0, .int .i64 o.k, .int .i64 o.u, .int .i64 o.v, .int .u64 o.w, .int .i64 (e + 1), .int .i64 (z + 1), .int .i64 (z + 2), .int .i64 n.err, .bool n.is, .int .i64 n.n, .int .u64 n.w, .slice B 0 q] 43)) (some ⟨W.heap.size, 0, none⟩) (flatC [mc])) := Lib.hid fun W => by rw [HMC.out]; exact sl_call W ⟨0, o.k, o.u, o.v, o.w, e + 1, z + 1, z + 2, n.err, n.is, n.n, n.w, [], B, q⟩
          have fm := Lib.hid (flatC_length [mc])
          have fo' := Lib.hid (flatC_one [mc])
          have m3 : Hid (i + 1 ≤ maxLen) := Lib.hid (by unfold maxLen; omega)
          have m4 : Hid ((i + 1) * 120 ≤ 140737488355328) := Lib.hid (by omega)
          have far : ∀ (W w10 : World) (gb : Nat) (k : Nat), Sl W (some ⟨gb, 0, none⟩) (flatC [mc]) → gb < W.heap.size → W.grownBy w10 (some k) → gb ≠ k → Sl w10 (some ⟨gb, 0, none⟩) (flatC [mc]) := fun W w10 gb k h hlt hg hne hp => by
            obtain ⟨b2, o2, hA2, hc2⟩ := h hp
            cases hA2
            exact ⟨gb, 0, rfl, fun j u hu => (hg.cell_far ⟨gb, 0 + j, none⟩ hlt (fun e => hne (Option.some.inj e))).trans (hc2 j u hu)⟩
          have SBF2 : Hid (∀ w10 : World, ((wy.alloc (.cells #[] 43)).alloc (.cells #[.int .i64 0, .int .i64 o.k, .int .i64 o.u, .int .i64 o.v, .int .u64 o.w, .int .i64 (e + 1), .int .i64 (z + 1), .int .i64 (z + 2), .int .i64 n.err, .bool n.is, .int .i64 n.n, .int .u64 n.w, .slice B 0 q] 43)).drew.grownBy w10 (some wy.heap.size) → Sl w10 (some ⟨wy.heap.size + 1, 0, none⟩) (flatC [mc])) := Lib.hid fun w10 hg => far _ w10 _ wy.heap.size (by
            have h := SLB.out (wy.alloc (.cells #[] 43))
            rw [World.size_alloc] at h
            exact h) (by show _ < ((wy.alloc _).alloc _).heap.size; simp only [World.size_alloc]; omega) hg (by omega)
          have SBF4 : Hid (∀ w10 : World, ((wy.alloc (.cells #[.int .i64 0, .int .i64 o.k, .int .i64 o.u, .int .i64 o.v, .int .u64 o.w, .int .i64 (e + 1), .int .i64 (z + 1), .int .i64 (z + 2), .int .i64 n.err, .bool n.is, .int .i64 n.n, .int .u64 n.w, .slice B 0 q] 43)).alloc (.cells #[] 43)).drew.grownBy w10 (some (wy.heap.size + 1)) → Sl w10 (some ⟨wy.heap.size, 0, none⟩) (flatC [mc])) := Lib.hid fun w10 hg => far _ w10 _ (wy.heap.size + 1) ((SLB.out wy).below ((Below.refl _ _).alloc (Nat.le_refl _) _).drew (Nat.le_refl _)) (by show _ < ((wy.alloc _).alloc _).heap.size; simp only [World.size_alloc]; omega) hg (by omega)
          clear far
          go_wp2_with (fail)
          go_region_held3 (fun W => W.cell? ⟨cb, 0, none⟩ = some (.int .i64 0) ∧ W.cell? ⟨cb, 1, none⟩ = some (.int .i64 o.k) ∧ W.cell? ⟨cb, 2, none⟩ = some (.int .i64 o.u) ∧ W.cell? ⟨cb, 3, none⟩ = some (.int .i64 o.v) ∧ W.cell? ⟨cb, 4, none⟩ = some (.int .u64 o.w) ∧ W.cell? ⟨cb, 5, none⟩ = some (.int .i64 (e + 1)) ∧ W.cell? ⟨cb, 6, none⟩ = some (.int .i64 (z + 1)) ∧ W.cell? ⟨cb, 7, none⟩ = some (.int .i64 (z + 2)) ∧ W.cell? ⟨cb, 8, none⟩ = some (.int .i64 n.err) ∧ W.cell? ⟨cb, 9, none⟩ = some (.bool n.is) ∧ W.cell? ⟨cb, 10, none⟩ = some (.int .i64 n.n) ∧ W.cell? ⟨cb, 11, none⟩ = some (.int .u64 n.w) ∧ W.cell? ⟨cb, 12, none⟩ = some (.slice B 0 q) ∧ Below wy.heap.size wy W)
            (first | (with_reducible exact S0.out) | (with_reducible exact S1.out) | (with_reducible exact S2.out) | (with_reducible exact S3.out) | (with_reducible exact S4.out) | (with_reducible exact KA.out _ B10.out) | (with_reducible exact KS) | (with_reducible assumption))
            (first
              | (refine step_append_sl _ (by rfl) (.tmp 153) (.tmp 154) 23 (by rfl) wy.heap.size 43 b43 _ 13 120 Tryz.underlying23 hb43 hz0' hz1' hz2' rfl (by decide) _ 0 [] (by rfl) E1.out _ i c (flatC l) (by rfl) ml.out PY1.out P1.out m1.out m2.out BW1.out.size i (Nat.zero_add _).symm ?_; intro A7 c7 w10 hown hb hg hk; have O10 := Lib.hid hown; have B10 := Lib.hid (BW1.out.trans hb);  have KS := KK.out w10 B10.out; clear hown hb hg hk)
              | (refine step_append_sl _ (by rfl) (.tmp 153) (.tmp 154) 23 (by rfl) wy.heap.size 43 b43 _ 13 120 Tryz.underlying23 hb43 hz0' hz1' hz2' rfl (by decide) _ 0 [] (by rfl) E2.out _ i c (flatC l) (by rfl) ml.out PY2.out P1.out m1.out m2.out BW2.out.size i (Nat.zero_add _).symm ?_; intro A7 c7 w10 hown hb hg hk; have O10 := Lib.hid hown; have B10 := Lib.hid (BW2.out.trans hb); have SB10 := Lib.hid (SBF2.out w10 hg); have KS := KK.out w10 B10.out; clear hown hb hg hk)
              | (refine step_append_sl _ (by rfl) (.tmp 153) (.tmp 154) 23 (by rfl) wy.heap.size 43 b43 _ 13 120 Tryz.underlying23 hb43 hz0' hz1' hz2' rfl (by decide) _ 0 [] (by rfl) E4.out _ i c (flatC l) (by rfl) ml.out PY4.out P1.out m1.out m2.out BW4.out.size i (Nat.zero_add _).symm ?_; intro A7 c7 w10 hown hb hg hk; have O10 := Lib.hid hown; have B10 := Lib.hid (BW4.out.trans hb); have SB10 := Lib.hid (SBF4.out w10 hg); have KS := KK.out w10 B10.out; clear hown hb hg hk)
              | (refine step_append_sl _ (by rfl) (.tmp 155) (.tmp 157) 23 (by rfl) wy.heap.size 43 b43 _ 13 120 Tryz.underlying23 hb43 hz0' hz1' hz2' rfl (by decide) _ i (flatC l) (by rfl) (O10.out.alloc _) (some ⟨w10.heap.size, 0, none⟩) 1 1 (flatC [mc]) (by rfl) fm.out (SLB.out w10) fo'.out m3.out m4.out (B10.out.alloc B10.out.size _).size (i + 1) rfl ?_; intro A8 c8 w11 hown hb _ _; have O11 := Lib.hid hown; have B11 := Lib.hid ((B10.out.alloc B10.out.size _).trans hb); have KS := KK.out w11 B11.out; clear hown hb)
              | (refine step_append_sl _ (by rfl) (.tmp 155) (.tmp 157) 23 (by rfl) wy.heap.size 43 b43 _ 13 120 Tryz.underlying23 hb43 hz0' hz1' hz2' rfl (by decide) _ i (flatC l) (by rfl) O10.out (some ⟨wy.heap.size + 1, 0, none⟩) 1 1 (flatC [mc]) (by rfl) fm.out SB10.out fo'.out m3.out m4.out B10.out.size (i + 1) rfl ?_; intro A8 c8 w11 hown hb _ _; have O11 := Lib.hid hown; have B11 := Lib.hid ((B10.out).trans hb); have KS := KK.out w11 B11.out; clear hown hb)
              | (refine step_append_sl _ (by rfl) (.tmp 155) (.tmp 157) 23 (by rfl) wy.heap.size 43 b43 _ 13 120 Tryz.underlying23 hb43 hz0' hz1' hz2' rfl (by decide) _ i (flatC l) (by rfl) O10.out (some ⟨wy.heap.size, 0, none⟩) 1 1 (flatC [mc]) (by rfl) fm.out SB10.out fo'.out m3.out m4.out B10.out.size (i + 1) rfl ?_; intro A8 c8 w11 hown hb _ _; have O11 := Lib.hid hown; have B11 := Lib.hid ((B10.out).trans hb); have KS := KK.out w11 B11.out; clear hown hb))
          all_goals
            have ML : Hid (i + 1 = (l ++ [mc]).length) := Lib.hid (by rw [List.length_append, List.length_singleton, HNH.out])
            have OM : Hid (w11.ownsRow wy.heap.size 43 13 (.slice A8 (i + 1) c8) (i + 1) (flatC (l ++ [mc]))) := Lib.hid (by rw [flatC_append]; exact O11.out)
            have BM := Lib.hid (BY.out.trans (B11.out.mono BY.out.size))
            have MC : Hid (∀ W, Below w11.heap.size w11 W → Cls W A8 (l ++ [mc])) := Lib.hid fun W hW => (own_cls OM.out (fun r hr => by
              rcases List.mem_append.1 hr with h | h
              · exact (HH.out.below BM.out (Nat.le_refl _)).1 r h
              · rw [List.mem_singleton] at h
                subst h
                rw [HXL.out]
                intro hp; simp at hp)).below hW (Nat.le_refl _)
            have MIN : Hid (Hs.rightB (l ++ [mc]) = true → ∀ W, Below w11.heap.size w11 W → LIn W G ng g A8 (i + 1) (l ++ [mc])) := Lib.hid fun hr W hW => by
              have h0 := IN.out W (BM.out.trans (hW.mono BM.out.size))
              refine ⟨h0.hng, ML.out, h0.hg, h0.hr, h0.few, MC.out W hW, fun r hr => ?_, h0.ht, ⟨Hs.right_of hr, by have := ML.out; omega, fun r hr => ?_⟩⟩
              · rcases List.mem_append.1 hr with h | h
                · exact Cl.Fits.short (HF.out r h)
                · rw [List.mem_singleton] at h
                  subst h
                  rw [HXL.out]; simp
              · rcases List.mem_append.1 hr with h | h
                · exact Cl.Fits.fine (HF.out r h)
                · rw [List.mem_singleton] at h
                  subst h
                  exact HXF.out
            have MD16 : Hid (∀ W, Below w11.heap.size w11 W → Calls Tryz.prog 16 #[.slice A8 (i + 1) c8] W fun e w' => e = .returned (.bool (Hs.rightB (l ++ [mc]))) ∧ Below W.heap.size W w') := Lib.hid fun W hW => Hs.refRight_any _ c8 (i + 1) (l ++ [mc]) W ML.out (MC.out W hW) (by have := ML.out; omega)
            have MD14 : Hid (Hs.rightB (l ++ [mc]) = true → ∀ W, Below w11.heap.size w11 W → Calls Tryz.prog 14 #[.slice G ng gc, .slice A8 (i + 1) c8] W fun e w' => e = .returned (.bool b) ∧ Below W.heap.size W w') := Lib.hid fun hr W hW => order_says G gc ng g _ c8 (i + 1) (l ++ [mc]) W (MIN.out hr W hW) b FIN.out
            generalize Hs.rightB (l ++ [mc]) = r3 at MD16 MIN MD14
            cases r3
            all_goals
              try (have MK := Lib.hid (MD14.out rfl))
              go_wp2_with (first
                | (go_at_call 16; ((with_reducible refine (MD16.out _ (Below.refl _ _)).mono ?_); rintro e' w12 ⟨rfl, hb12⟩; have X12 := Lib.hid hb12; clear hb12))
                | (go_at_call 14; ((with_reducible refine (MK.out w12 X12.out).mono ?_); rintro e' w13 ⟨rfl, hb13⟩; have X13 := Lib.hid (X12.out.trans (hb13.mono X12.out.size)); clear hb13)))
              go_ret
              first
                | exact ⟨by first | rfl | simp, BM.out.trans (X13.out.mono BM.out.size)⟩
                | exact ⟨by first | rfl | simp, BM.out.trans (X12.out.mono BM.out.size)⟩
end Go.Proofs.YtpdfmfkoopdfgaaGreatDoor
end
