/- LSys, LRead. -/
import Derived.Test.YtpdfmfkoopdfgaaGreatDoorB03
import Derived.Test.YtpdfmfkoopdfgaaGreatDoorB11
import Derived.Test.YtpdfmfkoopdfgaaGreatDoorB08
import Derived.Test.YtpdfmfkoopdfgaaGreatDoorB17
import Derived.Deep.Cut
import Derived.Deep.CutRange
set_option linter.unusedVariables false
set_option linter.unusedSimpArgs false
section
namespace Go.Proofs.YtpdfmfkoopdfgaaGreatDoor
set_option maxRecDepth 100000
open Go.RowKit Aid Gr Hs LinP

def opOf (p : Pt) : Gr.Op := ⟨p.k, p.u, p.v, p.x⟩
def ptD : Pt := ⟨0, 0, 0, 0, 0, false, 0, 0, false, 0, 0, 0, false⟩
def ptAt (ps : List Pt) (i : Nat) : Pt := ps.getD i ptD
theorem ptAt_some {ps : List Pt} {i : Nat} (h : i < ps.length) : ps[i]? = some (ptAt ps i) := by
  unfold ptAt
  rw [List.getD_eq_getElem?_getD, List.getElem?_eq_getElem h]; rfl
theorem ptAt_mem {ps : List Pt} {i : Nat} (h : i < ps.length) : ptAt ps i ∈ ps := List.mem_of_getElem? (ptAt_some h)
def sysOf (ps : List Pt) : LinP.Sys (List Arc) :=
  ⟨ps.length, fun i => turnsB (ptAt ps i).k, fun i => (ptAt ps i).must, fun i => (ptAt ps i).fr, fun i => (ptAt ps i).to, fun i g => fitR (ptAt ps i) (doA g (opOf (ptAt ps i))), fun i g => doG g (opOf (ptAt ps i))⟩
theorem fit_sys (ps : List Pt) (i : Nat) (g : List Arc) : (sysOf ps).fit i g = fitP (ptAt ps i) (doA g (opOf (ptAt ps i))) := rfl
def nats (L : List Nat) : List Value := L.map fun i : Nat => Value.int .i64 (i : Int)

/-- A box of two cells, and that it may be written. -/
structure Box2 (w : World) (b : Nat) (v0 v1 : Value) : Prop where
  c0 : w.cell? ⟨b, 0, none⟩ = some v0
  c1 : w.cell? ⟨b, 1, none⟩ = some v1
  f0 : w.frozen? ⟨b, 0, none⟩ = false
  f1 : w.frozen? ⟨b, 1, none⟩ = false
theorem Box2.lt {w : World} {b : Nat} {v0 v1 : Value} (h : Box2 w b v0 v1) : b < w.heap.size := World.block_lt_of_cell? w _ h.c0
theorem Box2.below {B : Nat} {w w' : World} {b : Nat} {v0 v1 : Value} (h : Box2 w b v0 v1) (hb : Below B w w') (hB : b < B) : Box2 w' b v0 v1 :=
  ⟨(hb.cell (p := ⟨b, 0, none⟩) hB).trans h.c0, (hb.cell (p := ⟨b, 1, none⟩) hB).trans h.c1, (hb.frozen (p := ⟨b, 0, none⟩) hB).trans h.f0, (hb.frozen (p := ⟨b, 1, none⟩) hB).trans h.f1⟩
theorem Box2.new (w : World) (v0 v1 : Value) (t : TypeId) : Box2 (w.alloc (.cells #[v0, v1] t)) w.heap.size v0 v1 := by
  refine ⟨?_, ?_, ?_, ?_⟩
  · rw [World.cell?_alloc_new]; rfl
  · rw [World.cell?_alloc_new]; rfl
  · unfold World.frozen?; simp only []; rw [heap_alloc_new]; simp
  · unfold World.frozen?; simp only []; rw [heap_alloc_new]; simp
theorem cell_set_ne (w : World) (a p : Addr) (v : Value) (h : p.block ≠ a.block) : (w.setCell a v).cell? p = w.cell? p :=
  World.cell?_of_block (w := w) (Below.heap_setCell w a v p.block h)
theorem frozen_set_ne (w : World) (a p : Addr) (v : Value) (h : p.block ≠ a.block) : (w.setCell a v).frozen? p = w.frozen? p :=
  World.frozen?_of_block (w := w) (Below.heap_setCell w a v p.block h)
theorem Box2.other {w : World} {b : Nat} {v0 v1 : Value} (h : Box2 w b v0 v1) {a : Addr} (v : Value) (hn : b ≠ a.block) : Box2 (w.setCell a v) b v0 v1 :=
  ⟨(cell_set_ne w a ⟨b, 0, none⟩ v hn).trans h.c0, (cell_set_ne w a ⟨b, 1, none⟩ v hn).trans h.c1, (frozen_set_ne w a ⟨b, 0, none⟩ v hn).trans h.f0, (frozen_set_ne w a ⟨b, 1, none⟩ v hn).trans h.f1⟩
theorem Box2.set2 {w : World} {b : Nat} {v0 v1 : Value} (h : Box2 w b v0 v1) (u0 u1 : Value) : Box2 ((w.setCell ⟨b, 0, none⟩ u0).setCell ⟨b, 1, none⟩ u1) b u0 u1 := by
  have h1 : (w.setCell ⟨b, 0, none⟩ u0).cell? ⟨b, 0, none⟩ = some u0 := World.cell?_setCell_same _ _ _ h.c0
  have h2 : (w.setCell ⟨b, 0, none⟩ u0).cell? ⟨b, 1, none⟩ = some v1 := (World.cell?_setCell_other _ _ _ _ (by simp)).trans h.c1
  exact ⟨(World.cell?_setCell_other _ _ _ _ (by simp)).trans h1, World.cell?_setCell_same _ _ _ h2, by rw [World.frozen?_setCell, World.frozen?_setCell]; exact h.f0, by rw [World.frozen?_setCell, World.frozen?_setCell]; exact h.f1⟩
theorem frozen_new (w : World) (c : Array Value) (t : TypeId) (j : Nat) : (w.alloc (.cells c t)).drew.frozen? ⟨w.heap.size, j, none⟩ = false := by
  show (w.alloc (.cells c t)).frozen? _ = false
  unfold World.frozen?; simp only []; rw [heap_alloc_new]; simp
theorem cellL {w W : World} {p : Addr} {v : Value} (h : w.cell? p = some v) (hb : Below w.heap.size w W) : W.cell? p = some v := (hb.cell (p := p) (World.block_lt_of_cell? _ _ h)).trans h
/-- The box of an answer. -/
structure OutAt (w : World) (b : Nat) (a : Ans) (C : Option Addr) (f : Nat) : Prop where
  c0 : w.cell? ⟨b, 0, none⟩ = some (.int .i64 a.err)
  c1 : w.cell? ⟨b, 1, none⟩ = some (.bool a.is)
  c2 : w.cell? ⟨b, 2, none⟩ = some (.int .i64 a.n)
  c3 : w.cell? ⟨b, 3, none⟩ = some (.int .u64 a.w)
  c4 : w.cell? ⟨b, 4, none⟩ = some (.slice C a.list.length f)
theorem OutAt.below {B : Nat} {w w' : World} {b : Nat} {a : Ans} {C : Option Addr} {f : Nat} (h : OutAt w b a C f) (hb : Below B w w') (hB : b < B) : OutAt w' b a C f :=
  ⟨(hb.cell (p := ⟨b, 0, none⟩) hB).trans h.c0, (hb.cell (p := ⟨b, 1, none⟩) hB).trans h.c1, (hb.cell (p := ⟨b, 2, none⟩) hB).trans h.c2, (hb.cell (p := ⟨b, 3, none⟩) hB).trans h.c3, (hb.cell (p := ⟨b, 4, none⟩) hB).trans h.c4⟩
theorem OutAt.new (w : World) (a : Ans) (C : Option Addr) (f : Nat) (t : TypeId) : OutAt (w.alloc (.cells #[.int .i64 a.err, .bool a.is, .int .i64 a.n, .int .u64 a.w, .slice C a.list.length f] t)) w.heap.size a C f := by
  refine ⟨?_, ?_, ?_, ?_, ?_⟩ <;> (rw [World.cell?_alloc_new]; rfl)
theorem OutAt.drew {w : World} {b : Nat} {a : Ans} {C : Option Addr} {f : Nat} (h : OutAt w b a C f) : OutAt w.drew b a C f := ⟨h.c0, h.c1, h.c2, h.c3, h.c4⟩
theorem OutAt.put {w : World} {b : Nat} {x0 x1 x2 x3 x4 : Value} (n0 : w.cell? ⟨b, 0, none⟩ = some x0) (n1 : w.cell? ⟨b, 1, none⟩ = some x1) (n2 : w.cell? ⟨b, 2, none⟩ = some x2) (n3 : w.cell? ⟨b, 3, none⟩ = some x3) (n4 : w.cell? ⟨b, 4, none⟩ = some x4) (a : Ans) (C : Option Addr) (f : Nat) :
    OutAt (((((w.setCell ⟨b, 0, none⟩ (.int .i64 a.err)).setCell ⟨b, 1, none⟩ (.bool a.is)).setCell ⟨b, 2, none⟩ (.int .i64 a.n)).setCell ⟨b, 3, none⟩ (.int .u64 a.w)).setCell ⟨b, 4, none⟩ (.slice C a.list.length f)) b a C f := by
  have o : ∀ (W : World) (i j : Nat) (v : Value), i ≠ j → (W.setCell ⟨b, i, none⟩ v).cell? ⟨b, j, none⟩ = W.cell? ⟨b, j, none⟩ := fun W i j v h => World.cell?_setCell_other _ _ _ _ (by simp)
  have s : ∀ (W : World) (i : Nat) (v x : Value), W.cell? ⟨b, i, none⟩ = some x → (W.setCell ⟨b, i, none⟩ v).cell? ⟨b, i, none⟩ = some v := fun W i v x h => World.cell?_setCell_same _ _ _ h
  refine ⟨?_, ?_, ?_, ?_, ?_⟩
  · rw [o _ _ _ _ (by decide), o _ _ _ _ (by decide), o _ _ _ _ (by decide), o _ _ _ _ (by decide)]; exact s _ _ _ _ n0
  · rw [o _ _ _ _ (by decide), o _ _ _ _ (by decide), o _ _ _ _ (by decide)]; exact s _ _ _ x1 (by rw [o _ _ _ _ (by decide)]; exact n1)
  · rw [o _ _ _ _ (by decide), o _ _ _ _ (by decide)]; exact s _ _ _ x2 (by rw [o _ _ _ _ (by decide), o _ _ _ _ (by decide)]; exact n2)
  · rw [o _ _ _ _ (by decide)]; exact s _ _ _ x3 (by rw [o _ _ _ _ (by decide), o _ _ _ _ (by decide), o _ _ _ _ (by decide)]; exact n3)
  · exact s _ _ _ x4 (by rw [o _ _ _ _ (by decide), o _ _ _ _ (by decide), o _ _ _ _ (by decide), o _ _ _ _ (by decide)]; exact n4)
end Go.Proofs.YtpdfmfkoopdfgaaGreatDoor
end
section
namespace Go.Proofs.YtpdfmfkoopdfgaaGreatDoor
set_option maxRecDepth 100000
open Go.RowKit Aid Gr Hs LinP

/-- The round's world: the boxes, the row of bools. -/
structure RI (w : World) (v0 v1 : Value) (n : Nat) (xs : List Value) (wr : World) : Prop where
  b0 : Box2 wr w.heap.size v0 v1
  b1 : Box2 wr (w.heap.size + 1) (.slice none 0 0) (.slice none 0 0)
  own : wr.ownsRow (w.heap.size + 2) 4 1 v1 n xs
  bel : Below w.heap.size w wr
theorem RI.later {w : World} {v0 v1 : Value} {n : Nat} {xs : List Value} {wr W : World} (h : RI w v0 v1 n xs wr) (hb : Below wr.heap.size wr W) : RI w v0 v1 n xs W :=
  ⟨h.b0.below hb h.b0.lt, h.b1.below hb h.b1.lt, h.own.kept (row := none) ⟨hb.os, hb.tape, hb.output, hb.size, fun k hk _ => hb.block k hk⟩ (by
    cases hq : v1.ownBlock
    · exact .inl rfl
    · exact .inr (by simp)), h.bel.trans (hb.mono h.bel.size)⟩
theorem rd_take (S : LinP.Sys (List Arc)) (L : List Nat) (g : List Arc) (d : List Bool) {j i : Nat} (h : L[j]? = some i) : rd S (L.take (j + 1)) g d = rd1 S g (rd S (L.take j) g d) i := by
  obtain ⟨hl, he⟩ := List.getElem?_eq_some_iff.1 h
  unfold rd
  rw [List.take_succ_eq_append_getElem hl, List.foldl_append, he]
  rfl
set_option maxHeartbeats 4000000 in
theorem read_any (A : Option Addr) (c nl : Nat) (l : List Arc) (B : Option Addr) (k nd : Nat) (d : List Bool) (P : Option Addr) (cp np : Nat) (ps : List Pt) (V : Option Addr) (cv nv : Nat) (L : List Nat) (w : World)
    (hnl : nl = l.length) (hnd : nd = d.length) (hnp : np = ps.length) (hnv : nv = L.length) (hl : Arcs w A l) (hs : Rises l) (h40 : l.length ≤ 999) (hd : Sl w B (d.map Value.bool)) (hdn : d.length = ps.length) (hp : Sl w P (Hs.flat ps)) (hV : Sl w V (nats L)) (hL : ∀ i ∈ L, i < ps.length) (hf : ∀ p ∈ ps, (opOf p).Fine) (hpn : ps.length ≤ 1000000) (hLn : L.length ≤ 1000000) :
    Calls Tryz.prog 93 #[.agg #[.slice A nl c, .slice B nd k], .slice P np cp, .slice V nv cv] w fun e w' => ∃ B' k', e = .returned (.agg #[.slice A nl c, .slice B' nd k']) ∧ Sl w' B' ((rd (sysOf ps) L l d).map Value.bool) ∧ Below w.heap.size w w' ∧ (∀ a, B' = some a → w.heap.size ≤ a.block) := by
  have nvb : nv ≤ 1000000 := by omega
  have npb : np ≤ 1000000 := by omega
  have HNL := Lib.hid hnl
  have HND := Lib.hid hnd
  have HNP := Lib.hid hnp
  have HNV := Lib.hid hnv
  have HL := Lib.hid hl
  have HRI := Lib.hid hs
  have H40 := Lib.hid h40
  have HD := Lib.hid hd
  have HDN := Lib.hid hdn
  have HP := Lib.hid hp
  have HV := Lib.hid hV
  have HLL := Lib.hid hL
  have HFF := Lib.hid hf
  clear hnl hnd hnp hnv hl hs h40 hd hdn hp hV hL hf hpn hLn
  have T0 : Hid (∀ W, Below (w.heap.size + 2) ((w.alloc (.cells #[.slice A nl c, .slice B nd k] 66)).alloc (.cells #[.slice none 0 0, .slice none 0 0] 66)) W → Box2 W w.heap.size (.slice A nl c) (.slice B nd k) ∧ Box2 W (w.heap.size + 1) (.slice none 0 0) (.slice none 0 0) ∧ Below w.heap.size w W) := Lib.hid fun W hW => by
    have h1 := Box2.new w (.slice A nl c) (.slice B nd k) 66
    have h2 := Box2.new (w.alloc (.cells #[.slice A nl c, .slice B nd k] 66)) (.slice none 0 0) (.slice none 0 0) 66
    rw [World.size_alloc] at h2
    have h0 : Below w.heap.size w ((w.alloc (.cells #[.slice A nl c, .slice B nd k] 66)).alloc (.cells #[.slice none 0 0, .slice none 0 0] 66)) := ((Below.refl _ _).alloc (Nat.le_refl _) _).alloc (by rw [World.size_alloc]; omega) _
    exact ⟨(h1.below ((Below.refl (w.heap.size + 1) _).alloc (by rw [World.size_alloc]; omega) _) (by omega)).below hW (by omega), h2.below hW (by omega), h0.trans (hW.mono (by omega))⟩
  have HC : Hid (Calls Tryz.prog 98 #[.slice B nd k] ((w.alloc (.cells #[.slice A nl c, .slice B nd k] 66)).alloc (.cells #[.slice none 0 0, .slice none 0 0] 66)) fun e w' => ∃ B' k', e = .returned (.slice B' nd k') ∧ w'.ownsRow (w.heap.size + 2) 4 1 (.slice B' nd k') nd (d.map Value.bool) ∧ Below (w.heap.size + 2) ((w.alloc (.cells #[.slice A nl c, .slice B nd k] 66)).alloc (.cells #[.slice none 0 0, .slice none 0 0] 66)) w') := Lib.hid (by
    have := cloneB_any B k nd d ((w.alloc (.cells #[.slice A nl c, .slice B nd k] 66)).alloc (.cells #[.slice none 0 0, .slice none 0 0] 66)) HND.out (HD.out.below (T0.out _ (Below.refl _ _)).2.2 (Nat.le_refl _)) (by rw [HDN.out, ← HNP.out]; omega)
    rw [World.size_alloc, World.size_alloc] at this
    exact this)
  obtain ⟨⟨a0, a1, a2, a3⟩, _, _⟩ := T0.out _ (Below.refl _ _)
  go_enter Tryz.func93, Tryz.ntmps93
  go_wp2_with (go_at_call 98; ((with_reducible refine HC.out.mono ?_); rintro e w1 ⟨B', k', rfl, hown, hb⟩; have HO := Lib.hid hown; have HB := Lib.hid hb; obtain ⟨⟨c0, c1, f0, f1⟩, _, _⟩ := T0.out _ hb; clear hown hb a0 a1 a2 a3))
  have H1 : Hid (RI w (.slice A nl c) (.slice B' nd k') nd (d.map Value.bool) (w1.setCell ⟨w.heap.size, 1, none⟩ (.slice B' nd k'))) := Lib.hid (by
    obtain ⟨q0, q1, q2⟩ := T0.out _ HB.out
    refine ⟨⟨(World.cell?_setCell_other _ _ _ _ (by simp)).trans q0.c0, World.cell?_setCell_same _ _ _ q0.c1, by rw [World.frozen?_setCell]; exact q0.f0, by rw [World.frozen?_setCell]; exact q0.f1⟩, q1.other _ (by simp), ?_, q2.setCell (Nat.le_refl _) _⟩
    exact ownsRow_setCell_below HO.out (by simp) _)
  clear c0 c1 f0 f1
  go_loopw [17] (fun v wr => ∃ j : Nat, j ≤ nv ∧ v = .int .i64 j ∧ RI w (.slice A nl c) (.slice B' nd k') nd ((rd (sysOf ps) (L.take j) l d).map Value.bool) wr) (fun v _ => nv - (intOf v).toNat)
  case atStart => exact ⟨0, Nat.zero_le _, rfl, H1.out⟩
  case round =>
    clear H1 HO HB HC
    obtain ⟨j, hj, rfl, hri⟩ := hrel
    have HR := Lib.hid hri
    clear hri
    obtain ⟨w0, hw0⟩ : ∃ w0, w0 = wr := ⟨_, rfl⟩
    subst hw0
    by_cases hlt : j < nv
    · have j0 : (0 : Int) ≤ (j : Int) := by omega
      have j1 : (j : Int) < (nv : Int) := by omega
      have n3 : IntKind.i64.wrap ((j : Int) + 1) = (j : Int) + 1 := by rw [IntKind.wrap_i64] <;> omega
      obtain ⟨i, hi⟩ : ∃ i, L[j]? = some i := ⟨L[j]'(by rw [← HNV.out]; exact hlt), List.getElem?_eq_getElem _⟩
      have HI := Lib.hid hi
      have hin : i < np := by rw [HNP.out]; exact HLL.out i (List.mem_of_getElem? hi)
      have hid' : i < nd := by rw [HND.out, HDN.out, ← HNP.out]; exact hin
      clear hi
      have i0 : (0 : Int) ≤ (i : Int) := by omega
      have i1 : (i : Int) < (np : Int) := by omega
      have i2 : (i : Int) < (nd : Int) := by omega
      obtain ⟨vb, vo, hVe, hvc⟩ := (HV.out.below HR.out.bel (Nat.le_refl _)) (by unfold nats; rw [List.length_map, ← HNV.out]; omega)
      subst hVe
      have cv1 := hvc j (.int .i64 (i : Int)) (by unfold nats; rw [List.getElem?_map, HI.out]; rfl)
      clear hvc
      obtain ⟨pb, po, hPe, hpt⟩ := sl_pt (HP.out.below HR.out.bel (Nat.le_refl _)) (ptAt_some (show i < ps.length by rw [← HNP.out]; exact hin))
      subst hPe
      obtain ⟨p, hpp⟩ : ∃ p, p = ptAt ps i := ⟨_, rfl⟩
      rw [← hpp] at hpt
      have HPP := Lib.hid hpp
      clear hpp
      have HPT := Lib.hid hpt
      obtain ⟨p0, p1, p2, p3, p4, p5, p6, p7, p8, p9, p10, p11, p12, p13⟩ := hpt
      obtain ⟨⟨c0, c1, f0, f1⟩, _, _, _⟩ := HR.out
      have TB : Hid (∀ W : World, Calls Tryz.prog 95 #[.int .i64 p.k] W fun e w' => e = .returned (.bool (turnsB p.k)) ∧ W = w') := Lib.hid fun W => turns_any p.k W
      have TE : Hid (turnsB p.k = (sysOf ps).turn i) := Lib.hid (by rw [HPP.out]; rfl)
      generalize turnsB p.k = tb at TB TE
      obtain ⟨dj, hdj⟩ : ∃ dj, dj = rd (sysOf ps) (L.take j) l d := ⟨_, rfl⟩
      rw [← hdj] at HR
      have HDJ := Lib.hid hdj
      clear hdj
      have hdl : Hid (dj.length = nd) := Lib.hid (by rw [HDJ.out, rd_len, ← HND.out])
      have hxi : (dj.map Value.bool)[i]? = some (.bool (isD dj i)) := by
        rw [List.getElem?_map, List.getElem?_eq_getElem (by rw [hdl.out]; exact hid')]
        unfold isD
        rw [List.getD_eq_getElem?_getD, List.getElem?_eq_getElem (by rw [hdl.out]; exact hid')]; rfl
      obtain ⟨g, hBe⟩ : ∃ g, B' = some ⟨g, 0, none⟩ := by
        rcases own_form HR.out.own with ⟨_, h2, _⟩ | ⟨g, cap, hv, _⟩
        · omega
        · injection hv with hv; exact ⟨g, hv⟩
      subst hBe
      have HG : Hid (w.heap.size + 2 ≤ g ∧ g < w0.heap.size) := Lib.hid (HR.out.own.lt g rfl)
      have cd : w0.cell? ⟨g, i, none⟩ = some (.bool (isD dj i)) := (HR.out.own.cellAt i (by omega)).trans hxi
      clear hxi
      obtain ⟨db, hdb⟩ : ∃ db, db = isD dj i := ⟨_, rfl⟩
      rw [← hdb] at cd
      have HDB := Lib.hid hdb
      clear hdb
      have RN : Hid (rd (sysOf ps) (L.take (j + 1)) l d = rd1 (sysOf ps) l dj i) := Lib.hid (by rw [rd_take _ _ _ _ HI.out, ← HDJ.out])
      cases tb
      · cases db
        · go_upto_region 6 with (go_at_call 95; ((with_reducible refine (TB.out _).mono ?_); rintro e w' ⟨rfl, rfl⟩))
          obtain ⟨an, han⟩ : ∃ an, an = doA l (opOf p) := ⟨_, rfl⟩
          have HAN := Lib.hid han
          clear han
          have DC : Hid (∀ W, Below w0.heap.size w0 W → Calls Tryz.prog 96 #[.slice A nl c, .agg #[.int .i64 p.k, .int .i64 p.u, .int .i64 p.v, .int .u64 p.x]] W fun e w' => ∃ X gl d C f, e = .returned (.tuple #[.slice X gl d, .agg #[.int .i64 an.err, .bool an.is, .int .i64 an.n, .int .u64 an.w, .slice C an.list.length f]]) ∧ Below W.heap.size W w') := Lib.hid fun W hW => by
            have := do_any A c nl l (opOf p) W HNL.out ((HL.out.below (HR.out.bel.trans (hW.mono HR.out.bel.size)) (Nat.le_refl _))) HRI.out H40.out (HFF.out p (by rw [HPP.out]; exact ptAt_mem (by rw [← HNP.out]; exact hin)))
            refine this.mono ?_
            rintro e w' ⟨X, dd, C, f, rfl, _, _, hb⟩
            exact ⟨X, _, dd, C, f, by rw [HAN.out]; rfl, hb⟩
          clear TB
          clear c0 c1 f0 f1 p0 p1 p2 p3 p4 p5 p6 p7 p8 p9 p10 p11 p12 p13 cd cv1
          go_cut [10] from 35 to 56 (fun v wx => ∃ b2 C f, v = .pointer (some ⟨b2, 0, none⟩) ∧ w0.heap.size ≤ b2 ∧ OutAt wx b2 an C f ∧ Below w0.heap.size w0 wx)
          case first =>
            go_wp2
            have NB : Hid (∀ W : World, Below ((w0.alloc (.cells #[.int .i64 0, .bool false, .int .i64 0, .int .u64 0, .slice none 0 0] 41)).drew).heap.size ((w0.alloc (.cells #[.int .i64 0, .bool false, .int .i64 0, .int .u64 0, .slice none 0 0] 41)).drew) W → (W.cell? ⟨w0.heap.size, 0, none⟩ = some (.int .i64 0) ∧ W.cell? ⟨w0.heap.size, 1, none⟩ = some (.bool false) ∧ W.cell? ⟨w0.heap.size, 2, none⟩ = some (.int .i64 0) ∧ W.cell? ⟨w0.heap.size, 3, none⟩ = some (.int .u64 0) ∧ W.cell? ⟨w0.heap.size, 4, none⟩ = some (.slice none 0 0)) ∧ (W.frozen? ⟨w0.heap.size, 0, none⟩ = false ∧ W.frozen? ⟨w0.heap.size, 1, none⟩ = false ∧ W.frozen? ⟨w0.heap.size, 2, none⟩ = false ∧ W.frozen? ⟨w0.heap.size, 3, none⟩ = false ∧ W.frozen? ⟨w0.heap.size, 4, none⟩ = false) ∧ Below w0.heap.size w0 W) := Lib.hid fun W hW => by
              have hs : w0.heap.size < ((w0.alloc (.cells #[.int .i64 0, .bool false, .int .i64 0, .int .u64 0, .slice none 0 0] 41)).drew).heap.size := by show _ < (w0.alloc _).heap.size; rw [World.size_alloc]; omega
              have h0 : Below w0.heap.size w0 ((w0.alloc (.cells #[.int .i64 0, .bool false, .int .i64 0, .int .u64 0, .slice none 0 0] 41)).drew) := ((Below.refl _ _).alloc (Nat.le_refl _) _).drew
              exact ⟨⟨(hW.cell (p := ⟨w0.heap.size, 0, none⟩) hs).trans ((World.cell?_alloc_new w0 _ _ _).trans rfl), (hW.cell (p := ⟨w0.heap.size, 1, none⟩) hs).trans ((World.cell?_alloc_new w0 _ _ _).trans rfl), (hW.cell (p := ⟨w0.heap.size, 2, none⟩) hs).trans ((World.cell?_alloc_new w0 _ _ _).trans rfl), (hW.cell (p := ⟨w0.heap.size, 3, none⟩) hs).trans ((World.cell?_alloc_new w0 _ _ _).trans rfl), (hW.cell (p := ⟨w0.heap.size, 4, none⟩) hs).trans ((World.cell?_alloc_new w0 _ _ _).trans rfl)⟩, ⟨(hW.frozen (p := ⟨w0.heap.size, 0, none⟩) hs).trans (frozen_new w0 _ _ 0), (hW.frozen (p := ⟨w0.heap.size, 1, none⟩) hs).trans (frozen_new w0 _ _ 1), (hW.frozen (p := ⟨w0.heap.size, 2, none⟩) hs).trans (frozen_new w0 _ _ 2), (hW.frozen (p := ⟨w0.heap.size, 3, none⟩) hs).trans (frozen_new w0 _ _ 3), (hW.frozen (p := ⟨w0.heap.size, 4, none⟩) hs).trans (frozen_new w0 _ _ 4)⟩, h0.trans (hW.mono (by omega))⟩
            have LW : Hid (∀ W : World, Below w0.heap.size w0 W → W.cell? ⟨w.heap.size, 0, none⟩ = some (.slice A nl c) ∧ W.cell? ⟨pb, po + i * 14, none⟩ = some (.int .i64 p.k) ∧ W.cell? ⟨pb, po + i * 14 + 1, none⟩ = some (.int .i64 p.u) ∧ W.cell? ⟨pb, po + i * 14 + 2, none⟩ = some (.int .i64 p.v) ∧ W.cell? ⟨pb, po + i * 14 + 3, none⟩ = some (.int .u64 p.x) ∧ Below w0.heap.size w0 W) := Lib.hid fun W hW => ⟨cellL (HR.out.b0.c0) hW, cellL (HPT.out.1) hW, cellL (HPT.out.2.1) hW, cellL (HPT.out.2.2.1) hW, cellL (HPT.out.2.2.2.1) hW, hW⟩
            have SS := Lib.hid (LW.out w0.drew (Below.refl _ _).drew)
            have SD : Hid (∀ o : Obj, (w0.alloc o).drew.cell? ⟨w.heap.size, 0, none⟩ = some (.slice A nl c) ∧ (w0.alloc o).drew.cell? ⟨pb, po + i * 14, none⟩ = some (.int .i64 p.k) ∧ (w0.alloc o).drew.cell? ⟨pb, po + i * 14 + 1, none⟩ = some (.int .i64 p.u) ∧ (w0.alloc o).drew.cell? ⟨pb, po + i * 14 + 2, none⟩ = some (.int .i64 p.v) ∧ (w0.alloc o).drew.cell? ⟨pb, po + i * 14 + 3, none⟩ = some (.int .u64 p.x) ∧ Below w0.heap.size w0 (w0.alloc o).drew) := Lib.hid fun o => LW.out _ ((Below.refl _ _).alloc (Nat.le_refl _) o).drew
            have KK : Hid (∀ (W W' : World), (W.cell? ⟨w.heap.size, 0, none⟩ = some (.slice A nl c) ∧ W.cell? ⟨pb, po + i * 14, none⟩ = some (.int .i64 p.k) ∧ W.cell? ⟨pb, po + i * 14 + 1, none⟩ = some (.int .i64 p.u) ∧ W.cell? ⟨pb, po + i * 14 + 2, none⟩ = some (.int .i64 p.v) ∧ W.cell? ⟨pb, po + i * 14 + 3, none⟩ = some (.int .u64 p.x) ∧ Below w0.heap.size w0 W) → Below W.heap.size W W' → W'.cell? ⟨w.heap.size, 0, none⟩ = some (.slice A nl c) ∧ W'.cell? ⟨pb, po + i * 14, none⟩ = some (.int .i64 p.k) ∧ W'.cell? ⟨pb, po + i * 14 + 1, none⟩ = some (.int .i64 p.u) ∧ W'.cell? ⟨pb, po + i * 14 + 2, none⟩ = some (.int .i64 p.v) ∧ W'.cell? ⟨pb, po + i * 14 + 3, none⟩ = some (.int .u64 p.x) ∧ Below w0.heap.size w0 W') := Lib.hid fun W W' h hW => LW.out W' (h.2.2.2.2.2.trans (hW.mono h.2.2.2.2.2.size))
            have KA : Hid (∀ (W : World) (o : Obj), (W.cell? ⟨w.heap.size, 0, none⟩ = some (.slice A nl c) ∧ W.cell? ⟨pb, po + i * 14, none⟩ = some (.int .i64 p.k) ∧ W.cell? ⟨pb, po + i * 14 + 1, none⟩ = some (.int .i64 p.u) ∧ W.cell? ⟨pb, po + i * 14 + 2, none⟩ = some (.int .i64 p.v) ∧ W.cell? ⟨pb, po + i * 14 + 3, none⟩ = some (.int .u64 p.x) ∧ Below w0.heap.size w0 W) → (W.alloc o).cell? ⟨w.heap.size, 0, none⟩ = some (.slice A nl c) ∧ (W.alloc o).cell? ⟨pb, po + i * 14, none⟩ = some (.int .i64 p.k) ∧ (W.alloc o).cell? ⟨pb, po + i * 14 + 1, none⟩ = some (.int .i64 p.u) ∧ (W.alloc o).cell? ⟨pb, po + i * 14 + 2, none⟩ = some (.int .i64 p.v) ∧ (W.alloc o).cell? ⟨pb, po + i * 14 + 3, none⟩ = some (.int .u64 p.x) ∧ Below w0.heap.size w0 (W.alloc o)) := Lib.hid fun W o h => LW.out _ (h.2.2.2.2.2.alloc h.2.2.2.2.2.size o)
            have KS : Hid (∀ (W : World) (j : Nat) (v : Value), (W.cell? ⟨w.heap.size, 0, none⟩ = some (.slice A nl c) ∧ W.cell? ⟨pb, po + i * 14, none⟩ = some (.int .i64 p.k) ∧ W.cell? ⟨pb, po + i * 14 + 1, none⟩ = some (.int .i64 p.u) ∧ W.cell? ⟨pb, po + i * 14 + 2, none⟩ = some (.int .i64 p.v) ∧ W.cell? ⟨pb, po + i * 14 + 3, none⟩ = some (.int .u64 p.x) ∧ Below w0.heap.size w0 W) → (W.setCell ⟨w0.heap.size, j, none⟩ v).cell? ⟨w.heap.size, 0, none⟩ = some (.slice A nl c) ∧ (W.setCell ⟨w0.heap.size, j, none⟩ v).cell? ⟨pb, po + i * 14, none⟩ = some (.int .i64 p.k) ∧ (W.setCell ⟨w0.heap.size, j, none⟩ v).cell? ⟨pb, po + i * 14 + 1, none⟩ = some (.int .i64 p.u) ∧ (W.setCell ⟨w0.heap.size, j, none⟩ v).cell? ⟨pb, po + i * 14 + 2, none⟩ = some (.int .i64 p.v) ∧ (W.setCell ⟨w0.heap.size, j, none⟩ v).cell? ⟨pb, po + i * 14 + 3, none⟩ = some (.int .u64 p.x) ∧ Below w0.heap.size w0 (W.setCell ⟨w0.heap.size, j, none⟩ v)) := Lib.hid fun W j v h => LW.out _ (h.2.2.2.2.2.setCell (p := ⟨w0.heap.size, j, none⟩) (Nat.le_refl _) v)
            have BW : Hid (∀ W : World, (W.cell? ⟨w.heap.size, 0, none⟩ = some (.slice A nl c) ∧ W.cell? ⟨pb, po + i * 14, none⟩ = some (.int .i64 p.k) ∧ W.cell? ⟨pb, po + i * 14 + 1, none⟩ = some (.int .i64 p.u) ∧ W.cell? ⟨pb, po + i * 14 + 2, none⟩ = some (.int .i64 p.v) ∧ W.cell? ⟨pb, po + i * 14 + 3, none⟩ = some (.int .u64 p.x) ∧ Below w0.heap.size w0 W) → Below w0.heap.size w0 W) := Lib.hid fun W h => h.2.2.2.2.2
            clear LW
            go_region_held3 (fun w' => w'.cell? ⟨w.heap.size, 0, none⟩ = some (.slice A nl c) ∧ w'.cell? ⟨pb, po + i * 14, none⟩ = some (.int .i64 p.k) ∧ w'.cell? ⟨pb, po + i * 14 + 1, none⟩ = some (.int .i64 p.u) ∧ w'.cell? ⟨pb, po + i * 14 + 2, none⟩ = some (.int .i64 p.v) ∧ w'.cell? ⟨pb, po + i * 14 + 3, none⟩ = some (.int .u64 p.x) ∧ Below w0.heap.size w0 w')
              (first | (with_reducible exact SS.out) | (with_reducible exact SD.out _) | (with_reducible assumption) | ((with_reducible refine KA.out _ _ ?_); first | (with_reducible exact SS.out) | (with_reducible exact SD.out _) | (with_reducible assumption) | ((with_reducible refine KA.out _ _ ?_); first | (with_reducible exact SS.out) | (with_reducible exact SD.out _) | (with_reducible assumption)) | ((with_reducible refine KK.out ?_ _ ?_ ?_); rotate_left 2; (with_reducible assumption); first | (with_reducible exact SS.out) | (with_reducible exact SD.out _) | (with_reducible assumption) | ((with_reducible refine KA.out _ _ ?_); first | (with_reducible exact SS.out) | (with_reducible exact SD.out _) | (with_reducible assumption)))) | ((with_reducible refine KK.out ?_ _ ?_ ?_); rotate_left 2; (with_reducible assumption); first | (with_reducible exact SS.out) | (with_reducible exact SD.out _) | (with_reducible assumption) | ((with_reducible refine KA.out _ _ ?_); first | (with_reducible exact SS.out) | (with_reducible exact SD.out _) | (with_reducible assumption)) | ((with_reducible refine KK.out ?_ _ ?_ ?_); rotate_left 2; (with_reducible assumption); first | (with_reducible exact SS.out) | (with_reducible exact SD.out _) | (with_reducible assumption) | ((with_reducible refine KA.out _ _ ?_); first | (with_reducible exact SS.out) | (with_reducible exact SD.out _) | (with_reducible assumption)))) | ((with_reducible refine KS.out _ _ _ ?_); (repeat (with_reducible refine KS.out _ _ _ ?_)); first | (with_reducible exact SS.out) | (with_reducible exact SD.out _) | (with_reducible assumption) | ((with_reducible refine KA.out _ _ ?_); first | (with_reducible exact SS.out) | (with_reducible exact SD.out _) | (with_reducible assumption)) | ((with_reducible refine KK.out ?_ _ ?_ ?_); rotate_left 2; (with_reducible assumption); first | (with_reducible exact SS.out) | (with_reducible exact SD.out _) | (with_reducible assumption) | ((with_reducible refine KA.out _ _ ?_); first | (with_reducible exact SS.out) | (with_reducible exact SD.out _) | (with_reducible assumption)))))
              (first | (go_at_call 96; ((with_reducible refine (DC.out _ ?_).mono ?_); (focus ((with_reducible refine BW.out _ ?_); first | (with_reducible exact SS.out) | (with_reducible exact SD.out _) | (with_reducible assumption) | ((with_reducible refine KA.out _ _ ?_); first | (with_reducible exact SS.out) | (with_reducible exact SD.out _) | (with_reducible assumption)))); rintro e wa ⟨X, gl, dd, C, f, rfl, hb1⟩; with_reducible have nb := NB.out _ hb1; obtain ⟨n0, n1, n2, n3, n4⟩ := nb.1; obtain ⟨g0, g1, g2, g3, g4⟩ := nb.2.1; clear nb)) | (go_at_call 96; ((with_reducible refine (DC.out _ ?_).mono ?_); (focus ((with_reducible refine BW.out _ ?_); first | (with_reducible exact SS.out) | (with_reducible exact SD.out _) | (with_reducible assumption) | ((with_reducible refine KA.out _ _ ?_); first | (with_reducible exact SS.out) | (with_reducible exact SD.out _) | (with_reducible assumption)))); rintro e wa ⟨X, gl, dd, C, f, rfl, hb1⟩)))
            · go_wp2
              go_meet
              have hb2 := BW.out _ (KK.out _ _ SS.out hb1)
              exact ⟨_, C, f, rfl, hb2.size, OutAt.new wa an C f 41, hb2.alloc hb2.size _⟩
            · go_wp2
              go_meet
              have hb2 := BW.out _ (KK.out _ _ (SD.out _) hb1)
              exact ⟨_, C, f, rfl, Nat.le_refl _, OutAt.put n0 n1 n2 n3 n4 an C f, ((((hb2.setCell (p := ⟨w0.heap.size, 0, none⟩) (Nat.le_refl _) _).setCell (p := ⟨w0.heap.size, 1, none⟩) (Nat.le_refl _) _).setCell (p := ⟨w0.heap.size, 2, none⟩) (Nat.le_refl _) _).setCell (p := ⟨w0.heap.size, 3, none⟩) (Nat.le_refl _) _).setCell (p := ⟨w0.heap.size, 4, none⟩) (Nat.le_refl _) _⟩
          case rest =>
            obtain ⟨b2, C, f, rfl, hb2, hO, hbw⟩ := hcut
            have HO := Lib.hid hO
            have HBW := Lib.hid hbw
            have HR2 := Lib.hid (HR.out.later hbw)
            have HPT2 : Hid (PAt wc pb (po + i * 14) p) := Lib.hid (by
              obtain ⟨p0, p1, p2, p3, p4, p5, p6, p7, p8, p9, p10, p11, p12, p13⟩ := HPT.out
              exact ⟨cellL p0 hbw, cellL p1 hbw, cellL p2 hbw, cellL p3 hbw, cellL p4 hbw, cellL p5 hbw, cellL p6 hbw, cellL p7 hbw, cellL p8 hbw, cellL p9 hbw, cellL p10 hbw, cellL p11 hbw, cellL p12 hbw, cellL p13 hbw⟩)
            have plt : pb < w.heap.size := by
              obtain ⟨q1, q2, hq, hc⟩ := HP.out (by have := HNP.out; rw [Hs.flat_length]; omega)
              injection hq with hq
              injection hq with hq1 hq2
              subst hq1
              have hg0 := flat_get ps (k := i) (p := p) (j := 0) (ptAt_some (show i < ps.length by rw [← HNP.out]; exact hin) |>.trans (by rw [← HPP.out])) rfl
              exact World.block_lt_of_cell? _ _ (hc _ _ hg0)
            have ne0 : Hid ((⟨w.heap.size, 1, none⟩ : Addr).block ≠ (⟨g, i, none⟩ : Addr).block) := Lib.hid (by have := HG.out.1; show w.heap.size ≠ g; omega)
            have ne1 : Hid (pb ≠ g) := Lib.hid (by have := HG.out.1; omega)
            have ne2 : Hid (b2 ≠ g) := Lib.hid (by have := HG.out.2; omega)
            have NB : Hid (∀ W, Below wc.drew.heap.size wc.drew W → W.cell? ⟨g, i, none⟩ = some (.bool false) ∧ W.frozen? ⟨g, i, none⟩ = false) := Lib.hid fun W hW => by
              have hr := HR2.out.later (Below.trans (Below.refl _ _).drew hW)
              refine ⟨(hr.own.cellAt i (by omega)).trans ?_, hr.own.frozenAt i⟩
              rw [List.getElem?_map, List.getElem?_eq_getElem (by rw [hdl.out]; exact hid')]
              have h2 := HDB.out
              unfold isD at h2
              rw [List.getD_eq_getElem?_getD, List.getElem?_eq_getElem (by rw [hdl.out]; exact hid')] at h2
              exact congrArg (fun b => some (Value.bool b)) h2.symm
            have DF : Hid (Calls Tryz.prog 97 #[.agg #[.int .i64 p.k, .int .i64 p.u, .int .i64 p.v, .int .u64 p.x, .int .i64 p.err, .bool p.is, .int .i64 p.n, .int .u64 p.w, .slice none 0 0, .bool p.any, .int .i64 p.fr, .int .i64 p.to, .int .i64 p.era, .bool p.must], .agg #[.int .i64 an.err, .bool an.is, .int .i64 an.n, .int .u64 an.w, .slice C an.list.length f]] wc.drew fun e w' => e = .returned (.bool (fitP p an)) ∧ Below wc.drew.heap.size wc.drew w') := Lib.hid (fits_any p an C f wc.drew)
            obtain ⟨fb, hfb⟩ : ∃ fb, fb = fitP p an := ⟨_, rfl⟩
            have HFB := Lib.hid hfb
            rw [← hfb] at DF
            clear hO hbw hfb
            go_wp2
            have SS : Hid (wc.drew.cell? ⟨w.heap.size, 1, none⟩ = some (.slice (some ⟨g, 0, none⟩) nd k') ∧ wc.drew.cell? ⟨pb, po + i * 14, none⟩ = some (.int .i64 p.k) ∧ wc.drew.cell? ⟨pb, po + i * 14 + 1, none⟩ = some (.int .i64 p.u) ∧ wc.drew.cell? ⟨pb, po + i * 14 + 2, none⟩ = some (.int .i64 p.v) ∧ wc.drew.cell? ⟨pb, po + i * 14 + 3, none⟩ = some (.int .u64 p.x) ∧ wc.drew.cell? ⟨pb, po + i * 14 + 4, none⟩ = some (.int .i64 p.err) ∧ wc.drew.cell? ⟨pb, po + i * 14 + 5, none⟩ = some (.bool p.is) ∧ wc.drew.cell? ⟨pb, po + i * 14 + 6, none⟩ = some (.int .i64 p.n) ∧ wc.drew.cell? ⟨pb, po + i * 14 + 7, none⟩ = some (.int .u64 p.w) ∧ wc.drew.cell? ⟨pb, po + i * 14 + 8, none⟩ = some (.slice none 0 0) ∧ wc.drew.cell? ⟨pb, po + i * 14 + 9, none⟩ = some (.bool p.any) ∧ wc.drew.cell? ⟨pb, po + i * 14 + 10, none⟩ = some (.int .i64 p.fr) ∧ wc.drew.cell? ⟨pb, po + i * 14 + 11, none⟩ = some (.int .i64 p.to) ∧ wc.drew.cell? ⟨pb, po + i * 14 + 12, none⟩ = some (.int .i64 p.era) ∧ wc.drew.cell? ⟨pb, po + i * 14 + 13, none⟩ = some (.bool p.must) ∧ wc.drew.cell? ⟨b2, 0, none⟩ = some (.int .i64 an.err) ∧ wc.drew.cell? ⟨b2, 1, none⟩ = some (.bool an.is) ∧ wc.drew.cell? ⟨b2, 2, none⟩ = some (.int .i64 an.n) ∧ wc.drew.cell? ⟨b2, 3, none⟩ = some (.int .u64 an.w) ∧ wc.drew.cell? ⟨b2, 4, none⟩ = some (.slice C an.list.length f)) := Lib.hid ⟨(HR2.out.b0).c1, HPT2.out.1, HPT2.out.2.1, HPT2.out.2.2.1, HPT2.out.2.2.2.1, HPT2.out.2.2.2.2.1, HPT2.out.2.2.2.2.2.1, HPT2.out.2.2.2.2.2.2.1, HPT2.out.2.2.2.2.2.2.2.1, HPT2.out.2.2.2.2.2.2.2.2.1, HPT2.out.2.2.2.2.2.2.2.2.2.1, HPT2.out.2.2.2.2.2.2.2.2.2.2.1, HPT2.out.2.2.2.2.2.2.2.2.2.2.2.1, HPT2.out.2.2.2.2.2.2.2.2.2.2.2.2.1, HPT2.out.2.2.2.2.2.2.2.2.2.2.2.2.2, HO.out.c0, HO.out.c1, HO.out.c2, HO.out.c3, HO.out.c4⟩
            have KK : Hid (∀ (W W' : World), (W.cell? ⟨w.heap.size, 1, none⟩ = some (.slice (some ⟨g, 0, none⟩) nd k') ∧ W.cell? ⟨pb, po + i * 14, none⟩ = some (.int .i64 p.k) ∧ W.cell? ⟨pb, po + i * 14 + 1, none⟩ = some (.int .i64 p.u) ∧ W.cell? ⟨pb, po + i * 14 + 2, none⟩ = some (.int .i64 p.v) ∧ W.cell? ⟨pb, po + i * 14 + 3, none⟩ = some (.int .u64 p.x) ∧ W.cell? ⟨pb, po + i * 14 + 4, none⟩ = some (.int .i64 p.err) ∧ W.cell? ⟨pb, po + i * 14 + 5, none⟩ = some (.bool p.is) ∧ W.cell? ⟨pb, po + i * 14 + 6, none⟩ = some (.int .i64 p.n) ∧ W.cell? ⟨pb, po + i * 14 + 7, none⟩ = some (.int .u64 p.w) ∧ W.cell? ⟨pb, po + i * 14 + 8, none⟩ = some (.slice none 0 0) ∧ W.cell? ⟨pb, po + i * 14 + 9, none⟩ = some (.bool p.any) ∧ W.cell? ⟨pb, po + i * 14 + 10, none⟩ = some (.int .i64 p.fr) ∧ W.cell? ⟨pb, po + i * 14 + 11, none⟩ = some (.int .i64 p.to) ∧ W.cell? ⟨pb, po + i * 14 + 12, none⟩ = some (.int .i64 p.era) ∧ W.cell? ⟨pb, po + i * 14 + 13, none⟩ = some (.bool p.must) ∧ W.cell? ⟨b2, 0, none⟩ = some (.int .i64 an.err) ∧ W.cell? ⟨b2, 1, none⟩ = some (.bool an.is) ∧ W.cell? ⟨b2, 2, none⟩ = some (.int .i64 an.n) ∧ W.cell? ⟨b2, 3, none⟩ = some (.int .u64 an.w) ∧ W.cell? ⟨b2, 4, none⟩ = some (.slice C an.list.length f)) → Below W.heap.size W W' → W'.cell? ⟨w.heap.size, 1, none⟩ = some (.slice (some ⟨g, 0, none⟩) nd k') ∧ W'.cell? ⟨pb, po + i * 14, none⟩ = some (.int .i64 p.k) ∧ W'.cell? ⟨pb, po + i * 14 + 1, none⟩ = some (.int .i64 p.u) ∧ W'.cell? ⟨pb, po + i * 14 + 2, none⟩ = some (.int .i64 p.v) ∧ W'.cell? ⟨pb, po + i * 14 + 3, none⟩ = some (.int .u64 p.x) ∧ W'.cell? ⟨pb, po + i * 14 + 4, none⟩ = some (.int .i64 p.err) ∧ W'.cell? ⟨pb, po + i * 14 + 5, none⟩ = some (.bool p.is) ∧ W'.cell? ⟨pb, po + i * 14 + 6, none⟩ = some (.int .i64 p.n) ∧ W'.cell? ⟨pb, po + i * 14 + 7, none⟩ = some (.int .u64 p.w) ∧ W'.cell? ⟨pb, po + i * 14 + 8, none⟩ = some (.slice none 0 0) ∧ W'.cell? ⟨pb, po + i * 14 + 9, none⟩ = some (.bool p.any) ∧ W'.cell? ⟨pb, po + i * 14 + 10, none⟩ = some (.int .i64 p.fr) ∧ W'.cell? ⟨pb, po + i * 14 + 11, none⟩ = some (.int .i64 p.to) ∧ W'.cell? ⟨pb, po + i * 14 + 12, none⟩ = some (.int .i64 p.era) ∧ W'.cell? ⟨pb, po + i * 14 + 13, none⟩ = some (.bool p.must) ∧ W'.cell? ⟨b2, 0, none⟩ = some (.int .i64 an.err) ∧ W'.cell? ⟨b2, 1, none⟩ = some (.bool an.is) ∧ W'.cell? ⟨b2, 2, none⟩ = some (.int .i64 an.n) ∧ W'.cell? ⟨b2, 3, none⟩ = some (.int .u64 an.w) ∧ W'.cell? ⟨b2, 4, none⟩ = some (.slice C an.list.length f)) := Lib.hid fun W W' h hW => ⟨cellL h.1 hW, cellL h.2.1 hW, cellL h.2.2.1 hW, cellL h.2.2.2.1 hW, cellL h.2.2.2.2.1 hW, cellL h.2.2.2.2.2.1 hW, cellL h.2.2.2.2.2.2.1 hW, cellL h.2.2.2.2.2.2.2.1 hW, cellL h.2.2.2.2.2.2.2.2.1 hW, cellL h.2.2.2.2.2.2.2.2.2.1 hW, cellL h.2.2.2.2.2.2.2.2.2.2.1 hW, cellL h.2.2.2.2.2.2.2.2.2.2.2.1 hW, cellL h.2.2.2.2.2.2.2.2.2.2.2.2.1 hW, cellL h.2.2.2.2.2.2.2.2.2.2.2.2.2.1 hW, cellL h.2.2.2.2.2.2.2.2.2.2.2.2.2.2.1 hW, cellL h.2.2.2.2.2.2.2.2.2.2.2.2.2.2.2.1 hW, cellL h.2.2.2.2.2.2.2.2.2.2.2.2.2.2.2.2.1 hW, cellL h.2.2.2.2.2.2.2.2.2.2.2.2.2.2.2.2.2.1 hW, cellL h.2.2.2.2.2.2.2.2.2.2.2.2.2.2.2.2.2.2.1 hW, cellL h.2.2.2.2.2.2.2.2.2.2.2.2.2.2.2.2.2.2.2 hW⟩
            have KS : Hid (∀ (W : World) (v : Value), (W.cell? ⟨w.heap.size, 1, none⟩ = some (.slice (some ⟨g, 0, none⟩) nd k') ∧ W.cell? ⟨pb, po + i * 14, none⟩ = some (.int .i64 p.k) ∧ W.cell? ⟨pb, po + i * 14 + 1, none⟩ = some (.int .i64 p.u) ∧ W.cell? ⟨pb, po + i * 14 + 2, none⟩ = some (.int .i64 p.v) ∧ W.cell? ⟨pb, po + i * 14 + 3, none⟩ = some (.int .u64 p.x) ∧ W.cell? ⟨pb, po + i * 14 + 4, none⟩ = some (.int .i64 p.err) ∧ W.cell? ⟨pb, po + i * 14 + 5, none⟩ = some (.bool p.is) ∧ W.cell? ⟨pb, po + i * 14 + 6, none⟩ = some (.int .i64 p.n) ∧ W.cell? ⟨pb, po + i * 14 + 7, none⟩ = some (.int .u64 p.w) ∧ W.cell? ⟨pb, po + i * 14 + 8, none⟩ = some (.slice none 0 0) ∧ W.cell? ⟨pb, po + i * 14 + 9, none⟩ = some (.bool p.any) ∧ W.cell? ⟨pb, po + i * 14 + 10, none⟩ = some (.int .i64 p.fr) ∧ W.cell? ⟨pb, po + i * 14 + 11, none⟩ = some (.int .i64 p.to) ∧ W.cell? ⟨pb, po + i * 14 + 12, none⟩ = some (.int .i64 p.era) ∧ W.cell? ⟨pb, po + i * 14 + 13, none⟩ = some (.bool p.must) ∧ W.cell? ⟨b2, 0, none⟩ = some (.int .i64 an.err) ∧ W.cell? ⟨b2, 1, none⟩ = some (.bool an.is) ∧ W.cell? ⟨b2, 2, none⟩ = some (.int .i64 an.n) ∧ W.cell? ⟨b2, 3, none⟩ = some (.int .u64 an.w) ∧ W.cell? ⟨b2, 4, none⟩ = some (.slice C an.list.length f)) → (W.setCell ⟨g, i, none⟩ v).cell? ⟨w.heap.size, 1, none⟩ = some (.slice (some ⟨g, 0, none⟩) nd k') ∧ (W.setCell ⟨g, i, none⟩ v).cell? ⟨pb, po + i * 14, none⟩ = some (.int .i64 p.k) ∧ (W.setCell ⟨g, i, none⟩ v).cell? ⟨pb, po + i * 14 + 1, none⟩ = some (.int .i64 p.u) ∧ (W.setCell ⟨g, i, none⟩ v).cell? ⟨pb, po + i * 14 + 2, none⟩ = some (.int .i64 p.v) ∧ (W.setCell ⟨g, i, none⟩ v).cell? ⟨pb, po + i * 14 + 3, none⟩ = some (.int .u64 p.x) ∧ (W.setCell ⟨g, i, none⟩ v).cell? ⟨pb, po + i * 14 + 4, none⟩ = some (.int .i64 p.err) ∧ (W.setCell ⟨g, i, none⟩ v).cell? ⟨pb, po + i * 14 + 5, none⟩ = some (.bool p.is) ∧ (W.setCell ⟨g, i, none⟩ v).cell? ⟨pb, po + i * 14 + 6, none⟩ = some (.int .i64 p.n) ∧ (W.setCell ⟨g, i, none⟩ v).cell? ⟨pb, po + i * 14 + 7, none⟩ = some (.int .u64 p.w) ∧ (W.setCell ⟨g, i, none⟩ v).cell? ⟨pb, po + i * 14 + 8, none⟩ = some (.slice none 0 0) ∧ (W.setCell ⟨g, i, none⟩ v).cell? ⟨pb, po + i * 14 + 9, none⟩ = some (.bool p.any) ∧ (W.setCell ⟨g, i, none⟩ v).cell? ⟨pb, po + i * 14 + 10, none⟩ = some (.int .i64 p.fr) ∧ (W.setCell ⟨g, i, none⟩ v).cell? ⟨pb, po + i * 14 + 11, none⟩ = some (.int .i64 p.to) ∧ (W.setCell ⟨g, i, none⟩ v).cell? ⟨pb, po + i * 14 + 12, none⟩ = some (.int .i64 p.era) ∧ (W.setCell ⟨g, i, none⟩ v).cell? ⟨pb, po + i * 14 + 13, none⟩ = some (.bool p.must) ∧ (W.setCell ⟨g, i, none⟩ v).cell? ⟨b2, 0, none⟩ = some (.int .i64 an.err) ∧ (W.setCell ⟨g, i, none⟩ v).cell? ⟨b2, 1, none⟩ = some (.bool an.is) ∧ (W.setCell ⟨g, i, none⟩ v).cell? ⟨b2, 2, none⟩ = some (.int .i64 an.n) ∧ (W.setCell ⟨g, i, none⟩ v).cell? ⟨b2, 3, none⟩ = some (.int .u64 an.w) ∧ (W.setCell ⟨g, i, none⟩ v).cell? ⟨b2, 4, none⟩ = some (.slice C an.list.length f)) := Lib.hid fun W v h => ⟨(cell_set_ne W ⟨g, i, none⟩ _ v (ne0.out)).trans h.1, (cell_set_ne W ⟨g, i, none⟩ _ v (ne1.out)).trans h.2.1, (cell_set_ne W ⟨g, i, none⟩ _ v (ne1.out)).trans h.2.2.1, (cell_set_ne W ⟨g, i, none⟩ _ v (ne1.out)).trans h.2.2.2.1, (cell_set_ne W ⟨g, i, none⟩ _ v (ne1.out)).trans h.2.2.2.2.1, (cell_set_ne W ⟨g, i, none⟩ _ v (ne1.out)).trans h.2.2.2.2.2.1, (cell_set_ne W ⟨g, i, none⟩ _ v (ne1.out)).trans h.2.2.2.2.2.2.1, (cell_set_ne W ⟨g, i, none⟩ _ v (ne1.out)).trans h.2.2.2.2.2.2.2.1, (cell_set_ne W ⟨g, i, none⟩ _ v (ne1.out)).trans h.2.2.2.2.2.2.2.2.1, (cell_set_ne W ⟨g, i, none⟩ _ v (ne1.out)).trans h.2.2.2.2.2.2.2.2.2.1, (cell_set_ne W ⟨g, i, none⟩ _ v (ne1.out)).trans h.2.2.2.2.2.2.2.2.2.2.1, (cell_set_ne W ⟨g, i, none⟩ _ v (ne1.out)).trans h.2.2.2.2.2.2.2.2.2.2.2.1, (cell_set_ne W ⟨g, i, none⟩ _ v (ne1.out)).trans h.2.2.2.2.2.2.2.2.2.2.2.2.1, (cell_set_ne W ⟨g, i, none⟩ _ v (ne1.out)).trans h.2.2.2.2.2.2.2.2.2.2.2.2.2.1, (cell_set_ne W ⟨g, i, none⟩ _ v (ne1.out)).trans h.2.2.2.2.2.2.2.2.2.2.2.2.2.2.1, (cell_set_ne W ⟨g, i, none⟩ _ v (ne2.out)).trans h.2.2.2.2.2.2.2.2.2.2.2.2.2.2.2.1, (cell_set_ne W ⟨g, i, none⟩ _ v (ne2.out)).trans h.2.2.2.2.2.2.2.2.2.2.2.2.2.2.2.2.1, (cell_set_ne W ⟨g, i, none⟩ _ v (ne2.out)).trans h.2.2.2.2.2.2.2.2.2.2.2.2.2.2.2.2.2.1, (cell_set_ne W ⟨g, i, none⟩ _ v (ne2.out)).trans h.2.2.2.2.2.2.2.2.2.2.2.2.2.2.2.2.2.2.1, (cell_set_ne W ⟨g, i, none⟩ _ v (ne2.out)).trans h.2.2.2.2.2.2.2.2.2.2.2.2.2.2.2.2.2.2.2⟩
            go_region_held3 (fun w' => w'.cell? ⟨w.heap.size, 1, none⟩ = some (.slice (some ⟨g, 0, none⟩) nd k') ∧ w'.cell? ⟨pb, po + i * 14, none⟩ = some (.int .i64 p.k) ∧ w'.cell? ⟨pb, po + i * 14 + 1, none⟩ = some (.int .i64 p.u) ∧ w'.cell? ⟨pb, po + i * 14 + 2, none⟩ = some (.int .i64 p.v) ∧ w'.cell? ⟨pb, po + i * 14 + 3, none⟩ = some (.int .u64 p.x) ∧ w'.cell? ⟨pb, po + i * 14 + 4, none⟩ = some (.int .i64 p.err) ∧ w'.cell? ⟨pb, po + i * 14 + 5, none⟩ = some (.bool p.is) ∧ w'.cell? ⟨pb, po + i * 14 + 6, none⟩ = some (.int .i64 p.n) ∧ w'.cell? ⟨pb, po + i * 14 + 7, none⟩ = some (.int .u64 p.w) ∧ w'.cell? ⟨pb, po + i * 14 + 8, none⟩ = some (.slice none 0 0) ∧ w'.cell? ⟨pb, po + i * 14 + 9, none⟩ = some (.bool p.any) ∧ w'.cell? ⟨pb, po + i * 14 + 10, none⟩ = some (.int .i64 p.fr) ∧ w'.cell? ⟨pb, po + i * 14 + 11, none⟩ = some (.int .i64 p.to) ∧ w'.cell? ⟨pb, po + i * 14 + 12, none⟩ = some (.int .i64 p.era) ∧ w'.cell? ⟨pb, po + i * 14 + 13, none⟩ = some (.bool p.must) ∧ w'.cell? ⟨b2, 0, none⟩ = some (.int .i64 an.err) ∧ w'.cell? ⟨b2, 1, none⟩ = some (.bool an.is) ∧ w'.cell? ⟨b2, 2, none⟩ = some (.int .i64 an.n) ∧ w'.cell? ⟨b2, 3, none⟩ = some (.int .u64 an.w) ∧ w'.cell? ⟨b2, 4, none⟩ = some (.slice C an.list.length f))
              (first | (with_reducible exact SS.out) | (with_reducible assumption) | ((with_reducible refine KK.out ?_ _ ?_ ?_); rotate_left 2; (with_reducible assumption); first | (with_reducible exact SS.out) | (with_reducible assumption)) | ((with_reducible refine KS.out _ _ ?_); first | (with_reducible exact SS.out) | (with_reducible assumption)))
              (first | (go_at_call 97; ((with_reducible refine DF.out.mono ?_); rintro e wa ⟨rfl, hb1⟩; have nb := NB.out _ hb1; obtain ⟨n0, n1⟩ := nb)))
            clear SS KK KS
            go_wp2
            go_roundw
            case rel =>
              refine ⟨j + 1, by omega, by go_num, ?_⟩
              have hr := HR2.out.later (Below.trans (Below.refl _ _).drew hb1)
              have hst := hr.own.stored i (.bool fb)
              have hx : (dj.map Value.bool).set i (.bool fb) = (rd (sysOf ps) (L.take (j + 1)) l d).map Value.bool := by
                rw [RN.out]
                unfold rd1
                rw [← TE.out, ← HDB.out, fit_sys, ← HPP.out, ← HAN.out, ← HFB.out, ← List.map_set]
                rfl
              rw [hx] at hst
              exact ⟨hr.b0.other _ ne0.out, hr.b1.other _ (by have := HG.out.1; show w.heap.size + 1 ≠ g; omega), hst.1, hr.bel.setCell (p := ⟨g, i, none⟩) (by have := HG.out.1; show w.heap.size ≤ g; omega) _⟩
            case measure => simp [intOf]; omega
        · go_wp2_with (go_at_call 95; ((with_reducible refine (TB.out _).mono ?_); rintro e w' ⟨rfl, rfl⟩))
          go_roundw
          case rel => exact ⟨j + 1, by omega, by go_num, by rw [RN.out]; unfold rd1; rw [← HDB.out, Bool.or_true, if_pos rfl]; exact HR.out⟩
          case measure => simp [intOf]; omega
      · go_wp2_with (go_at_call 95; ((with_reducible refine (TB.out _).mono ?_); rintro e w' ⟨rfl, rfl⟩))
        go_roundw
        case rel => exact ⟨j + 1, by omega, by go_num, by rw [RN.out]; unfold rd1; rw [← TE.out, Bool.true_or, if_pos rfl]; exact HR.out⟩
        case measure => simp [intOf]; omega
    · obtain rfl : j = nv := by omega
      obtain ⟨⟨c0, c1, f0, f1⟩, ⟨r0, r1, g0, g1⟩, _, _⟩ := HR.out
      go_wp2
      obtain ⟨q0, q1, _, _⟩ := HR.out.b1.set2 (.slice A nl c) (.slice B' nd k')
      refine bodyPost_ret (v := .agg #[.slice A nl c, .slice B' nd k']) (by simp [results, Tryz.results93, go_sem, q0, q1]) rfl ⟨B', k', rfl, ?_, ?_, ?_⟩
      · have h1 := ownsRow_setCell_below (ownsRow_setCell_below HR.out.own (a := ⟨w.heap.size + 1, 0, none⟩) (by simp) (.slice A nl c)) (a := ⟨w.heap.size + 1, 1, none⟩) (by simp) (.slice B' nd k')
        rw [List.take_of_length_le (by rw [← HNV.out]; omega)] at h1
        exact own_sl h1
      · exact (HR.out.bel.setCell (p := ⟨w.heap.size + 1, 0, none⟩) (by simp) _).setCell (p := ⟨w.heap.size + 1, 1, none⟩) (by simp) _
      · intro a ha
        subst ha
        have := (HR.out.own.lt a.block rfl).1
        omega
end Go.Proofs.YtpdfmfkoopdfgaaGreatDoor
end
