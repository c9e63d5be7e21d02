/- GDo1, GDo2, GDo3, GDo4. -/
import Derived.Test.YtpdfmfkoopdfgaaGreatDoorB15
import Derived.Test.YtpdfmfkoopdfgaaGreatDoorB09
set_option linter.unusedVariables false
set_option linter.unusedSimpArgs false
section
namespace Go.Proofs.YtpdfmfkoopdfgaaGreatDoor.Gr
set_option maxRecDepth 100000
open Go.RowKit Aid

def inB (l : List Arc) (u : Int) : Bool := hasB l u (-1)
def both (l : List Arc) (o : Op) : Bool := inB l o.u && inB l o.v
/-- The graph behind an operation. -/
def doG (l : List Arc) (o : Op) : List Arc :=
  if (decide (o.k < 11 ∨ 17 < o.k) || !keysB o) = true then l
  else if o.k = 11 then withL l ⟨o.u, -1, 0⟩
  else if o.k = 12 then kept l (ends o)
  else if o.k = 14 ∧ both l o = true then withL l ⟨o.u, o.v, o.w⟩
  else if o.k = 15 ∧ both l o = true then kept l (isE o)
  else l
/-- What is answered. -/
def doA (l : List Arc) (o : Op) : Ans :=
  if o.k < 11 ∨ 17 < o.k then ⟨1, false, 0, 0, []⟩
  else if keysB o = false then ⟨4, false, 0, 0, []⟩
  else if o.k = 11 then ⟨0, !inB l o.u, 0, 0, []⟩
  else if o.k = 12 ∨ o.k = 13 then ⟨0, inB l o.u, 0, 0, []⟩
  else if o.k = 17 then ⟨0, inB l o.u, 0, 0, near l o.u⟩
  else if o.k = 16 then ⟨0, hasB l o.u o.v, 0, hasW l o.u o.v, []⟩
  else if both l o = false then ⟨5, false, 0, 0, []⟩
  else ⟨0, false, 0, 0, []⟩
def DoPost (l : List Arc) (o : Op) (w : World) (e : Ending) (w' : World) : Prop :=
  ∃ B d C f, e = .returned (.tuple #[.slice B (doG l o).length d, (doA l o).val C f]) ∧ Arcs w' B (doG l o) ∧ Sl w' C ((doA l o).list.map (Value.int .i64)) ∧ Below w.heap.size w w'
/-- The result's box, as it begins. -/
def ZeroOut (w : World) (b : Nat) : Prop :=
  w.cell? ⟨b, 0, none⟩ = some (.int .i64 0) ∧ w.cell? ⟨b, 1, none⟩ = some (.bool false) ∧ w.cell? ⟨b, 2, none⟩ = some (.int .i64 0) ∧ w.cell? ⟨b, 3, none⟩ = some (.int .u64 0) ∧ w.cell? ⟨b, 4, none⟩ = some (.slice none 0 0) ∧
  w.frozen? ⟨b, 0, none⟩ = false ∧ w.frozen? ⟨b, 1, none⟩ = false ∧ w.frozen? ⟨b, 2, none⟩ = false ∧ w.frozen? ⟨b, 3, none⟩ = false ∧ w.frozen? ⟨b, 4, none⟩ = false
theorem keepFrozen {B : Nat} {w w' : World} (hb : Below B w w') {g : Nat} (hg : g < B) (o : Nat) (h : w.frozen? ⟨g, o, none⟩ = false) : w'.frozen? ⟨g, o, none⟩ = false := by
  unfold World.frozen? at h ⊢
  simp only [] at h ⊢
  rw [hb.block g hg]; exact h
theorem ZeroOut.below {B : Nat} {w w' : World} {b : Nat} (h : ZeroOut w b) (hb : Below B w w') (hB : w.heap.size ≤ B) : ZeroOut w' b := by
  obtain ⟨h1, h2, h3, h4, h5, f1, f2, f3, f4, f5⟩ := h
  have hlt := Nat.lt_of_lt_of_le (World.block_lt_of_cell? w _ h1) hB
  exact ⟨(hb.cell (p := ⟨b, 0, none⟩) hlt).trans h1, (hb.cell (p := ⟨b, 1, none⟩) hlt).trans h2, (hb.cell (p := ⟨b, 2, none⟩) hlt).trans h3, (hb.cell (p := ⟨b, 3, none⟩) hlt).trans h4, (hb.cell (p := ⟨b, 4, none⟩) hlt).trans h5,
    keepFrozen hb hlt 0 f1, keepFrozen hb hlt 1 f2, keepFrozen hb hlt 2 f3, keepFrozen hb hlt 3 f4, keepFrozen hb hlt 4 f5⟩
/-- The world behind region 0. -/
abbrev w2 (w : World) (k u v x : Int) : World := (w.alloc (.cells #[.int .i64 k, .int .i64 u, .int .i64 v, .int .u64 x] 38)).alloc (.cells #[.int .i64 0, .bool false, .int .i64 0, .int .u64 0, .slice none 0 0] 41)
theorem w2_ok (w : World) (k u v x : Int) : OpAt (w2 w k u v x) w.heap.size ⟨k, u, v, x⟩ ∧ ZeroOut (w2 w k u v x) (w.heap.size + 1) ∧ Below w.heap.size w (w2 w k u v x) := by
  have hb : Below w.heap.size w (w2 w k u v x) := ((Below.refl w.heap.size w).alloc (Nat.le_refl _) _).alloc (by rw [World.size_alloc]; omega) _
  refine ⟨?_, ?_, hb⟩
  · have h : OpAt (w.alloc (.cells #[.int .i64 k, .int .i64 u, .int .i64 v, .int .u64 x] 38)) w.heap.size ⟨k, u, v, x⟩ := by
      refine ⟨?_, ?_, ?_, ?_⟩ <;> (rw [World.cell?_alloc_new]; rfl)
    exact h.below ((Below.refl _ _).alloc (Nat.le_refl _) _) (Nat.le_refl _)
  · have hs : w.heap.size + 1 = (w.alloc (.cells #[.int .i64 k, .int .i64 u, .int .i64 v, .int .u64 x] 38)).heap.size := by rw [World.size_alloc]
    rw [hs]
    refine ⟨?_, ?_, ?_, ?_, ?_, ?_, ?_, ?_, ?_, ?_⟩
    iterate 5 (first | (rw [World.cell?_alloc_new]; rfl) | skip)
    all_goals (first | (rw [World.cell?_alloc_new]; rfl) | (unfold World.frozen?; simp only []; rw [heap_alloc_new]; simp))
theorem sl_nil (w : World) (A : Option Addr) : Sl w A (([] : List Int).map (Value.int .i64)) := fun h => absurd h (by simp)
theorem w2_below (w : World) (o1 o2 : Obj) : Below w.heap.size w ((w.alloc o1).alloc o2) := ((Below.refl w.heap.size w).alloc (Nat.le_refl _) _).alloc (by rw [World.size_alloc]; omega) _
theorem do_ret {R : Ending → World → Prop} {a : Act} {W : World} {b : Nat} {cs : List Value} {g : Value} (h4 : a.tmps.getD 4 undef = g) (h5 : a.tmps.getD 5 undef = .pointer (some ⟨b, 0, none⟩)) (hd : a.defers = [])
    (hc : W.rangeAt b 0 cs) (hl : cs.length = 5) (hR : R (.returned (.tuple #[g, .agg cs.toArray])) W) : bodyPost Tryz.prog Tryz.f96 R .ret a W := by
  have hi : (Tryz.prog.info? 41).map (·.size) = some cs.length := by rw [hl]; kernel_rfl
  have hld := run_loadVar_mid (P := Tryz.prog) W b 0 41 cs _ hc Tryz.underlying41 rfl hi
  refine bodyPost_ret (v := .tuple #[g, .agg cs.toArray]) ?_ hd hR
  unfold results
  rw [show Tryz.f96.results = #[.tmp 4, .cell 5 41] from rfl]
  simp only [Array.getD_eq_getD_getElem?] at h4 h5
  simp [asAddr, h4, h5, hld]
theorem range_new (W : World) (cur : Array Value) (t : TypeId) : (W.alloc (.cells cur t)).rangeAt W.heap.size 0 cur.toList := fun j v hj => by
  rw [Nat.zero_add, World.cell?_alloc_new, ← hj, Array.getElem?_toList]
theorem range_new2 (W : World) (o : Obj) (cur : Array Value) (t : TypeId) : ((W.alloc o).alloc (.cells cur t)).rangeAt (W.heap.size + 1) 0 cur.toList := by
  have := range_new (W.alloc o) cur t
  rwa [World.size_alloc] at this
theorem ZeroOut.there {w : World} {b : Nat} (h : ZeroOut w b) : w.there b 0 5 := fun j hj => by
  obtain ⟨h1, h2, h3, h4, h5, f1, f2, f3, f4, f5⟩ := h
  rw [Nat.zero_add]
  have : j = 0 ∨ j = 1 ∨ j = 2 ∨ j = 3 ∨ j = 4 := by omega
  rcases this with rfl | rfl | rfl | rfl | rfl
  · exact ⟨by rw [h1]; rfl, f1⟩
  · exact ⟨by rw [h2]; rfl, f2⟩
  · exact ⟨by rw [h3]; rfl, f3⟩
  · exact ⟨by rw [h4]; rfl, f4⟩
  · exact ⟨by rw [h5]; rfl, f5⟩
theorem do_low (A : Option Addr) (c n : Nat) (l : List Arc) (k u v x : Int) (w : World) (hn : n = l.length) (hl : Arcs w A l) (hk : k < 11) : Calls Tryz.prog 96 #[.slice A n c, .agg #[.int .i64 k, .int .i64 u, .int .i64 v, .int .u64 x]] w (DoPost l ⟨k, u, v, x⟩ w) := by
  subst hn
  have hg : doG l ⟨k, u, v, x⟩ = l := by unfold doG; rw [if_pos (by simp [hk])]
  have ha : doA l ⟨k, u, v, x⟩ = ⟨1, false, 0, 0, []⟩ := by unfold doA; rw [if_pos (Or.inl hk)]
  have HL := Lib.hid hl
  unfold DoPost
  rw [hg, ha]
  clear hl hg ha
  go_enter Tryz.func96, Tryz.ntmps96
  go_wp2
  (try simp only [Exit.inBlock, Exit.then])
  refine do_ret rfl rfl rfl (range_new2 _ _ _ _) rfl ?_
  exact ⟨A, c, none, 0, rfl, HL.out.below (w2_below _ _ _) (Nat.le_refl _), sl_nil _ _, w2_below _ _ _⟩
theorem do_high (A : Option Addr) (c n : Nat) (l : List Arc) (k u v x : Int) (w : World) (hn : n = l.length) (hl : Arcs w A l) (hk : 17 < k) : Calls Tryz.prog 96 #[.slice A n c, .agg #[.int .i64 k, .int .i64 u, .int .i64 v, .int .u64 x]] w (DoPost l ⟨k, u, v, x⟩ w) := by
  subst hn
  have hg : doG l ⟨k, u, v, x⟩ = l := by unfold doG; rw [if_pos (by simp [hk])]
  have ha : doA l ⟨k, u, v, x⟩ = ⟨1, false, 0, 0, []⟩ := by unfold doA; rw [if_pos (Or.inr hk)]
  have HL := Lib.hid hl
  unfold DoPost
  rw [hg, ha]
  have hk1 : decide (k < 11) = false := by simp; omega
  have hk2 : decide (17 < k) = true := by simp; omega
  clear hl hg ha
  go_enter Tryz.func96, Tryz.ntmps96
  go_wp2
  (try simp only [Exit.inBlock, Exit.then])
  refine do_ret rfl rfl rfl (range_new2 _ _ _ _) rfl ?_
  exact ⟨A, c, none, 0, rfl, HL.out.below (w2_below _ _ _) (Nat.le_refl _), sl_nil _ _, w2_below _ _ _⟩
/-- Rows never lie in the result's box. -/
theorem arcs_box {W : World} {b : Nat} {B : Option Addr} {l : List Arc} (hz : ZeroOut W b) (h : Arcs W B l) (vs : List Value) (hv : vs.length = 5) : Arcs (W.setCells b 0 vs) B l := by
  obtain ⟨h1, h2, h3⟩ := h
  obtain ⟨z1, z2, z3, z4, z5, _⟩ := hz
  refine ⟨h1, h2, fun hp => ?_⟩
  obtain ⟨b', off, hA, hc⟩ := h3 hp
  refine ⟨b', off, hA, fun i a hi => ?_⟩
  obtain ⟨c1, c2, c3⟩ := hc i a hi
  have hfar : b' = b → 5 ≤ off + i * 3 := fun e => by
    subst e
    generalize off + i * 3 = p at c1 c2 c3
    rcases Nat.lt_or_ge p 5 with hlt | hge
    · have : p = 0 ∨ p = 1 ∨ p = 2 ∨ p = 3 ∨ p = 4 := by omega
      rcases this with rfl | rfl | rfl | rfl | rfl
      · rw [z2] at c2; cases c2
      · rw [z2] at c1; cases c1
      · rw [z4] at c2; cases c2
      · rw [z4] at c1; cases c1
      · rw [z5] at c1; cases c1
    · exact hge
  refine ⟨?_, ?_, ?_⟩
  · rw [World.cell?_setCells_out b vs 0 W _ (fun e _ => by have := hfar e; right; show 0 + vs.length ≤ off + i * 3; omega)]; exact c1
  · rw [World.cell?_setCells_out b vs 0 W _ (fun e _ => by have := hfar e; right; show 0 + vs.length ≤ off + i * 3 + 1; omega)]; exact c2
  · rw [World.cell?_setCells_out b vs 0 W _ (fun e _ => by have := hfar e; right; show 0 + vs.length ≤ off + i * 3 + 2; omega)]; exact c3
theorem do_fin {l : List Arc} {o : Op} {w : World} {a : Act} (W : World) (B C : Option Addr) (d f b : Nat) (e : Int) (i : Bool) (n x : Int) (li : List Int) (h4 : a.tmps.getD 4 undef = .slice B (doG l o).length d) (h5 : a.tmps.getD 5 undef = .pointer (some ⟨b, 0, none⟩)) (hd : a.defers = [])
    (hz : ZeroOut W b) (hb : w.heap.size ≤ b) (hbW : Below w.heap.size w W) (harcs : Arcs W B (doG l o)) (ha : doA l o = ⟨e, i, n, x, li⟩) (hs : Sl (W.setCells b 0 [.int .i64 e, .bool i, .int .i64 n, .int .u64 x, .slice C li.length f]) C (li.map (Value.int .i64))) :
    bodyPost Tryz.prog Tryz.f96 (DoPost l o w) .ret a (W.setCells b 0 [.int .i64 e, .bool i, .int .i64 n, .int .u64 x, .slice C li.length f]) := by
  refine do_ret h4 h5 hd (World.rangeAt_setCells_same W b 0 [.int .i64 e, .bool i, .int .i64 n, .int .u64 x, .slice C li.length f] hz.there) rfl ?_
  unfold DoPost
  rw [ha]
  exact ⟨B, d, C, f, rfl, arcs_box hz harcs _ rfl, hs, below_set b hb _ 0 hbW⟩
theorem after2 {w : World} {k u v x : Int} : ∀ w', Below (w2 w k u v x).heap.size (w2 w k u v x) w' → ZeroOut w' (w.heap.size + 1) ∧ OpAt w' w.heap.size ⟨k, u, v, x⟩ ∧ Below w.heap.size w w' := fun w' h => by
  obtain ⟨ho, hz, hb⟩ := w2_ok w k u v x
  exact ⟨hz.below h (Nat.le_refl _), ho.below h (Nat.le_refl _), hb.trans (h.mono hb.size)⟩
set_option maxHeartbeats 2000000 in
theorem do_key (A : Option Addr) (c n : Nat) (l : List Arc) (k u v x : Int) (w : World) (hn : n = l.length) (hl : Arcs w A l) (hk1 : 11 ≤ k) (hk2 : k ≤ 17) (hq : keysB ⟨k, u, v, x⟩ = false) : Calls Tryz.prog 96 #[.slice A n c, .agg #[.int .i64 k, .int .i64 u, .int .i64 v, .int .u64 x]] w (DoPost l ⟨k, u, v, x⟩ w) := by
  subst hn
  have hg : doG l ⟨k, u, v, x⟩ = l := by unfold doG; rw [if_pos (by simp [hq])]
  have ha : doA l ⟨k, u, v, x⟩ = ⟨4, false, 0, 0, []⟩ := by unfold doA; rw [if_neg (by simp only; omega), if_pos hq]
  have HL := Lib.hid hl
  have HG := Lib.hid hg
  have HAn := Lib.hid ha
  obtain ⟨ho, hz, hb⟩ := w2_ok w k u v x
  have T := Lib.hid (@after2 w k u v x)
  have HK := Lib.hid (keys_any ⟨k, u, v, x⟩ (w2 w k u v x))
  rw [hq] at HK
  unfold Op.val at HK
  simp only at HK
  have d1 : decide (k < 11) = false := by simp; omega
  have d2 : decide (17 < k) = false := by simp; omega
  obtain ⟨c1, c2, c3, c4⟩ := ho
  simp only at c1 c2 c3 c4
  clear hl hg ha hq hz hb
  go_enter Tryz.func96, Tryz.ntmps96
  go_wp2_with (first
    | (go_at_call 116; ((with_reducible refine HK.out.mono ?_); rintro e w' ⟨rfl, hb⟩; obtain ⟨hz, _, hbb⟩ := T.out _ hb; have HZ' := Lib.hid hz; have HBk := Lib.hid hbb; obtain ⟨z1, z2, z3, z4, z5, f1, f2, f3, f4, f5⟩ := hz; clear hb hbb)))
  (try simp only [Exit.inBlock, Exit.then])
  exact do_fin w' A none c 0 (w.heap.size + 1) 4 false 0 0 [] (by rw [HG.out]; rfl) rfl rfl HZ'.out (Nat.le_succ _) HBk.out (by rw [HG.out]; exact HL.out.below HBk.out (Nat.le_refl _)) HAn.out (sl_nil _ _)
end Go.Proofs.YtpdfmfkoopdfgaaGreatDoor.Gr
end
section
namespace Go.Proofs.YtpdfmfkoopdfgaaGreatDoor.Gr
set_option maxRecDepth 100000
open Go.RowKit Aid

theorem after3 {w : World} {k u v x : Int} : ∀ w', Below (w2 w k u v x).heap.size (w2 w k u v x) w' → ZeroOut w' (w.heap.size + 1) ∧ (w'.cell? ⟨w.heap.size, 0, none⟩ = some (.int .i64 k) ∧ w'.cell? ⟨w.heap.size, 1, none⟩ = some (.int .i64 u) ∧ w'.cell? ⟨w.heap.size, 2, none⟩ = some (.int .i64 v) ∧ w'.cell? ⟨w.heap.size, 3, none⟩ = some (.int .u64 x)) ∧ Below w.heap.size w w' := fun w' h => by
  obtain ⟨h1, h2, h3⟩ := after2 w' h
  exact ⟨h1, h2, h3⟩
theorem inAll {A : Option Addr} {c : Nat} {l : List Arc} {w : World} {k u v x : Int} (hl : Arcs w A l) (hs : Rises l) (h40 : l.length ≤ 1000) : ∀ W, Below (w2 w k u v x).heap.size (w2 w k u v x) W → ∀ y, Calls Tryz.prog 117 #[.slice A l.length c, .int .i64 y, .int .i64 (-1)] W fun e w' => e = .returned (.bool (inB l y)) ∧ Below W.heap.size W w' := fun W h y => in_any A c l.length l y (-1) W rfl (hl.below (after2 W h).2.2 (Nat.le_refl _)) hs h40
theorem doG_plain {l : List Arc} {o : Op} (h1 : 11 ≤ o.k) (h2 : o.k ≤ 17) (hq : keysB o = true) (h : o.k = 13 ∨ o.k = 16 ∨ o.k = 17) : doG l o = l := by
  unfold doG
  rw [if_neg (by simp [hq]; omega), if_neg (by omega), if_neg (by omega), if_neg (by omega), if_neg (by omega)]
theorem do_finD {l : List Arc} {o : Op} {w : World} {a : Act} (W : World) (B C : Option Addr) (d f b : Nat) (e : Int) (i : Bool) (n x : Int) (li : List Int) (h4 : a.tmps.getD 4 undef = .slice B (doG l o).length d) (h5 : a.tmps.getD 5 undef = .pointer (some ⟨b, 0, none⟩)) (hd : a.defers = [])
    (hz : ZeroOut W b) (hb : w.heap.size ≤ b) (hbW : Below w.heap.size w W) (harcs : Arcs W B (doG l o)) (ha : doA l o = ⟨e, i, n, x, li⟩) (hs : Sl (W.setCells b 0 [.int .i64 e, .bool i, .int .i64 n, .int .u64 x, .slice C li.length f]) C (li.map (Value.int .i64))) :
    bodyPost Tryz.prog Tryz.f96 (DoPost l o w) .ret a (W.setCells b 0 [.int .i64 e, .bool i, .int .i64 n, .int .u64 x, .slice C li.length f]).drew := by
  refine do_ret h4 h5 hd ((World.rangeAt_drew _ _ _ _).2 (World.rangeAt_setCells_same W b 0 [.int .i64 e, .bool i, .int .i64 n, .int .u64 x, .slice C li.length f] hz.there)) rfl ?_
  unfold DoPost
  rw [ha]
  exact ⟨B, d, C, f, rfl, (arcs_box hz harcs _ rfl).below (Below.refl _ _).drew (Nat.le_refl _), hs.below (Below.refl _ _).drew (Nat.le_refl _), (below_set b hb _ 0 hbW).drew⟩
set_option maxHeartbeats 8000000 in
set_option maxRecDepth 100000 in
theorem do_hasv (A : Option Addr) (c n : Nat) (l : List Arc) (u v x : Int) (w : World) (hn : n = l.length) (hl : Arcs w A l) (hs : Rises l) (h40 : l.length ≤ 999) (hq : keysB ⟨13, u, v, x⟩ = true) : Calls Tryz.prog 96 #[.slice A n c, .agg #[.int .i64 13, .int .i64 u, .int .i64 v, .int .u64 x]] w (DoPost l ⟨13, u, v, x⟩ w) := by
  subst hn
  have HG := Lib.hid (doG_plain (l := l) (o := ⟨13, u, v, x⟩) (by simp) (by simp) hq (.inl rfl))
  have HAn : Hid (doA l ⟨13, u, v, x⟩ = ⟨0, inB l u, 0, 0, []⟩) := Lib.hid (by
    unfold doA
    rw [if_neg (by simp), if_neg (by rw [hq]; simp), if_neg (by simp), if_pos (by simp)])
  have HL := Lib.hid hl
  have T := Lib.hid (@after3 w 13 u v x)
  have HK := Lib.hid (keys_any ⟨13, u, v, x⟩ (w2 w 13 u v x))
  have HIu := Lib.hid (fun W h => @inAll A c l w 13 u v x hl hs (by omega) W h u)
  have HIv := Lib.hid (fun W h => @inAll A c l w 13 u v x hl hs (by omega) W h v)
  rw [hq] at HK
  unfold Op.val at HK
  simp only at HK
  clear hl hq hs
  generalize inB l u = U at HAn HIu
  generalize inB l v = V at HIv
  cases U
  · go_enter Tryz.func96, Tryz.ntmps96
    go_wp2_with (first
      | (go_at_call 116; ((with_reducible refine HK.out.mono ?_); rintro e w' ⟨rfl, hb⟩; have Hc := Lib.hid hb; obtain ⟨hz, ⟨c1, c2, c3, c4⟩, _⟩ := T.out _ hb; have HZ' := Lib.hid hz; clear hb hz))
      | (go_at_call 117; ((with_reducible refine (HIu.out _ Hc.out).mono ?_); rintro e w4 ⟨rfl, hb⟩; have Hd := Lib.hid (Hc.out.trans (hb.mono Hc.out.size)); clear hb Hc HZ' c1 c2 c3 c4; have Hc := Hd; clear Hd; obtain ⟨hz, ⟨c1, c2, c3, c4⟩, _⟩ := T.out _ Hc.out; have HZ' := Lib.hid hz; have Ha := Lib.hid (Hc.out.alloc Hc.out.size (.cells #[.int .i64 0, .bool false, .int .i64 0, .int .u64 0, .slice none 0 0] 41)); obtain ⟨_, ⟨e1, e2, e3, e4⟩, _⟩ := T.out _ Ha.out; clear hz))
      | (go_at_call 117; ((with_reducible refine (HIv.out _ Hc.out).mono ?_); rintro e w5 ⟨rfl, hb⟩; clear Ha e1 e2 e3 e4; have Hd := Lib.hid (Hc.out.trans (hb.mono Hc.out.size)); clear hb Hc HZ' c1 c2 c3 c4; have Hc := Hd; clear Hd; obtain ⟨hz, ⟨c1, c2, c3, c4⟩, _⟩ := T.out _ Hc.out; have HZ' := Lib.hid hz; have Ha := Lib.hid (Hc.out.alloc Hc.out.size (.cells #[.int .i64 0, .bool false, .int .i64 0, .int .u64 0, .slice none 0 0] 41)); obtain ⟨_, ⟨e1, e2, e3, e4⟩, _⟩ := T.out _ Ha.out; clear hz)))
    obtain ⟨hz9, _, hb9⟩ := T.out _ Ha.out
    have HZ9 := Lib.hid hz9
    have HB9 := Lib.hid hb9
    obtain ⟨hz8, _, _⟩ := T.out _ Ha.out
    obtain ⟨z1, z2, z3, z4, z5, f1, f2, f3, f4, f5⟩ := hz8
    clear hb9 hz9
    have t1 : (w4.alloc (.cells #[.int .i64 0, .bool false, .int .i64 0, .int .u64 0, .slice none 0 0] 41)).cell? ⟨w4.heap.size, 0, none⟩ = some (.int .i64 0) := by
      rw [World.cell?_alloc_new]; rfl
    have t2 : (w4.alloc (.cells #[.int .i64 0, .bool false, .int .i64 0, .int .u64 0, .slice none 0 0] 41)).cell? ⟨w4.heap.size, 1, none⟩ = some (.bool false) := by
      rw [World.cell?_alloc_new]; rfl
    have t3 : (w4.alloc (.cells #[.int .i64 0, .bool false, .int .i64 0, .int .u64 0, .slice none 0 0] 41)).cell? ⟨w4.heap.size, 2, none⟩ = some (.int .i64 0) := by
      rw [World.cell?_alloc_new]; rfl
    have t4 : (w4.alloc (.cells #[.int .i64 0, .bool false, .int .i64 0, .int .u64 0, .slice none 0 0] 41)).cell? ⟨w4.heap.size, 3, none⟩ = some (.int .u64 0) := by
      rw [World.cell?_alloc_new]; rfl
    have t5 : (w4.alloc (.cells #[.int .i64 0, .bool false, .int .i64 0, .int .u64 0, .slice none 0 0] 41)).cell? ⟨w4.heap.size, 4, none⟩ = some (.slice none 0 0) := by
      rw [World.cell?_alloc_new]; rfl
    go_region
    all_goals go_wp2
    trace_state
    all_goals (try simp only [Exit.inBlock, Exit.then])
    all_goals exact do_finD (w4.alloc (.cells #[.int .i64 0, .bool false, .int .i64 0, .int .u64 0, .slice none 0 0] 41)) A none c 0 (w.heap.size + 1) 0 false 0 0 [] (by rw [HG.out]; rfl) rfl rfl HZ9.out (Nat.le_succ _) HB9.out (by rw [HG.out]; exact HL.out.below HB9.out (Nat.le_refl _)) HAn.out (sl_nil _ _)
  · go_enter Tryz.func96, Tryz.ntmps96
    go_wp2_with (first
      | (go_at_call 116; ((with_reducible refine HK.out.mono ?_); rintro e w' ⟨rfl, hb⟩; have Hc := Lib.hid hb; obtain ⟨hz, ⟨c1, c2, c3, c4⟩, _⟩ := T.out _ hb; have HZ' := Lib.hid hz; clear hb hz))
      | (go_at_call 117; ((with_reducible refine (HIu.out _ Hc.out).mono ?_); rintro e w4 ⟨rfl, hb⟩; have Hd := Lib.hid (Hc.out.trans (hb.mono Hc.out.size)); clear hb Hc HZ' c1 c2 c3 c4; have Hc := Hd; clear Hd; obtain ⟨hz, ⟨c1, c2, c3, c4⟩, _⟩ := T.out _ Hc.out; have HZ' := Lib.hid hz; have Ha := Lib.hid (Hc.out.alloc Hc.out.size (.cells #[.int .i64 0, .bool true, .int .i64 0, .int .u64 0, .slice none 0 0] 41)); obtain ⟨_, ⟨e1, e2, e3, e4⟩, _⟩ := T.out _ Ha.out; clear hz))
      | (go_at_call 117; ((with_reducible refine (HIv.out _ Hc.out).mono ?_); rintro e w5 ⟨rfl, hb⟩; clear Ha e1 e2 e3 e4; have Hd := Lib.hid (Hc.out.trans (hb.mono Hc.out.size)); clear hb Hc HZ' c1 c2 c3 c4; have Hc := Hd; clear Hd; obtain ⟨hz, ⟨c1, c2, c3, c4⟩, _⟩ := T.out _ Hc.out; have HZ' := Lib.hid hz; have Ha := Lib.hid (Hc.out.alloc Hc.out.size (.cells #[.int .i64 0, .bool true, .int .i64 0, .int .u64 0, .slice none 0 0] 41)); obtain ⟨_, ⟨e1, e2, e3, e4⟩, _⟩ := T.out _ Ha.out; clear hz)))
    obtain ⟨hz9, _, hb9⟩ := T.out _ Ha.out
    have HZ9 := Lib.hid hz9
    have HB9 := Lib.hid hb9
    obtain ⟨hz8, _, _⟩ := T.out _ Ha.out
    obtain ⟨z1, z2, z3, z4, z5, f1, f2, f3, f4, f5⟩ := hz8
    clear hb9 hz9
    have t1 : (w5.alloc (.cells #[.int .i64 0, .bool true, .int .i64 0, .int .u64 0, .slice none 0 0] 41)).cell? ⟨w5.heap.size, 0, none⟩ = some (.int .i64 0) := by
      rw [World.cell?_alloc_new]; rfl
    have t2 : (w5.alloc (.cells #[.int .i64 0, .bool true, .int .i64 0, .int .u64 0, .slice none 0 0] 41)).cell? ⟨w5.heap.size, 1, none⟩ = some (.bool true) := by
      rw [World.cell?_alloc_new]; rfl
    have t3 : (w5.alloc (.cells #[.int .i64 0, .bool true, .int .i64 0, .int .u64 0, .slice none 0 0] 41)).cell? ⟨w5.heap.size, 2, none⟩ = some (.int .i64 0) := by
      rw [World.cell?_alloc_new]; rfl
    have t4 : (w5.alloc (.cells #[.int .i64 0, .bool true, .int .i64 0, .int .u64 0, .slice none 0 0] 41)).cell? ⟨w5.heap.size, 3, none⟩ = some (.int .u64 0) := by
      rw [World.cell?_alloc_new]; rfl
    have t5 : (w5.alloc (.cells #[.int .i64 0, .bool true, .int .i64 0, .int .u64 0, .slice none 0 0] 41)).cell? ⟨w5.heap.size, 4, none⟩ = some (.slice none 0 0) := by
      rw [World.cell?_alloc_new]; rfl
    go_region
    all_goals go_wp2
    trace_state
    all_goals (try simp only [Exit.inBlock, Exit.then])
    all_goals exact do_finD (w5.alloc (.cells #[.int .i64 0, .bool true, .int .i64 0, .int .u64 0, .slice none 0 0] 41)) A none c 0 (w.heap.size + 1) 0 true 0 0 [] (by rw [HG.out]; rfl) rfl rfl HZ9.out (Nat.le_succ _) HB9.out (by rw [HG.out]; exact HL.out.below HB9.out (Nat.le_refl _)) HAn.out (sl_nil _ _)
end Go.Proofs.YtpdfmfkoopdfgaaGreatDoor.Gr
end
section
namespace Go.Proofs.YtpdfmfkoopdfgaaGreatDoor.Gr
set_option maxRecDepth 100000
open Go.RowKit Aid

theorem hasAll {A : Option Addr} {c : Nat} {l : List Arc} {w : World} {k u v x : Int} (hl : Arcs w A l) (hs : Rises l) (h40 : l.length ≤ 1000) : ∀ W, Below (w2 w k u v x).heap.size (w2 w k u v x) W → Calls Tryz.prog 122 #[.slice A l.length c, .int .i64 u, .int .i64 v] W fun e w' => e = .returned (.tuple #[.int .u64 (hasW l u v), .bool (hasB l u v)]) ∧ Below W.heap.size W w' := fun W h => has_any A c l.length l u v W rfl (hl.below (after2 W h).2.2 (Nat.le_refl _)) hs h40
theorem nearAll {A : Option Addr} {c : Nat} {l : List Arc} {w : World} {k u v x : Int} (hl : Arcs w A l) (h40 : l.length ≤ 1000) : ∀ W, Below (w2 w k u v x).heap.size (w2 w k u v x) W → Calls Tryz.prog 121 #[.slice A l.length c, .int .i64 u] W fun e w' => ∃ B d, e = .returned (.slice B (near l u).length d) ∧ w'.ownsRow W.heap.size 3 1 (.slice B (near l u).length d) (near l u).length ((near l u).map (Value.int .i64)) ∧ Below W.heap.size W w' := fun W h => near_any A c l.length l u W rfl (hl.below (after2 W h).2.2 (Nat.le_refl _)) h40
theorem w2_size (w : World) (k u v x : Int) : (w2 w k u v x).heap.size = w.heap.size + 2 := by unfold w2; rw [World.size_alloc, World.size_alloc]
/-- A list that lies in memory from a block on. -/
def SlFrom (base : Nat) (w : World) (B : Option Addr) (xs : List Value) : Prop := 0 < xs.length → ∃ g, B = some ⟨g, 0, none⟩ ∧ base ≤ g ∧ ∀ j u, xs[j]? = some u → w.cell? ⟨g, 0 + j, none⟩ = some u
theorem SlFrom.of {w : World} {base : Nat} {B : Option Addr} {n d : Nat} {xs : List Value} (h : w.ownsRow base 3 1 (.slice B n d) n xs) : SlFrom base w B xs := fun hp => by
  rcases own_form h with ⟨_, _, rfl⟩ | ⟨g, cap, hv, hg, _, _, _, hc, _⟩
  · simp at hp
  · injection hv with hA
    exact ⟨g, hA, hg, hc⟩
theorem SlFrom.set {w : World} {base : Nat} {B : Option Addr} {xs : List Value} (h : SlFrom base w B xs) (b : Nat) (hb : b < base) (vs : List Value) (o : Nat) : SlFrom base (w.setCells b o vs) B xs := fun hp => by
  obtain ⟨g, hB, hg, hc⟩ := h hp
  exact ⟨g, hB, hg, fun j u hu => (World.cell?_setCells_out b vs o w ⟨g, 0 + j, none⟩ (fun e _ => absurd (show g = b from e) (by omega))).trans (hc j u hu)⟩
theorem SlFrom.sl {w : World} {base : Nat} {B : Option Addr} {xs : List Value} (h : SlFrom base w B xs) : Sl w B xs := fun hp => by
  obtain ⟨g, hB, _, hc⟩ := h hp
  exact ⟨g, 0, hB, hc⟩
theorem ZeroOut.set {w : World} {b b' : Nat} (h : ZeroOut w b) (hb : b ≠ b') (vs : List Value) (o : Nat) : ZeroOut (w.setCells b' o vs) b := by
  obtain ⟨h1, h2, h3, h4, h5, f1, f2, f3, f4, f5⟩ := h
  have hc : ∀ j v, w.cell? ⟨b, j, none⟩ = some v → (w.setCells b' o vs).cell? ⟨b, j, none⟩ = some v := fun j v hv => (World.cell?_setCells_out b' vs o w ⟨b, j, none⟩ (fun e _ => absurd (show b = b' from e) hb)).trans hv
  have hf : ∀ j, w.frozen? ⟨b, j, none⟩ = false → (w.setCells b' o vs).frozen? ⟨b, j, none⟩ = false := fun j hj => by rw [World.frozen?_setCells]; exact hj
  exact ⟨hc _ _ h1, hc _ _ h2, hc _ _ h3, hc _ _ h4, hc _ _ h5, hf _ f1, hf _ f2, hf _ f3, hf _ f4, hf _ f5⟩
set_option maxHeartbeats 8000000 in
set_option maxRecDepth 100000 in
theorem do_hase (A : Option Addr) (c n : Nat) (l : List Arc) (u v x : Int) (w : World) (hn : n = l.length) (hl : Arcs w A l) (hs : Rises l) (h40 : l.length ≤ 999) (hq : keysB ⟨16, u, v, x⟩ = true) : Calls Tryz.prog 96 #[.slice A n c, .agg #[.int .i64 16, .int .i64 u, .int .i64 v, .int .u64 x]] w (DoPost l ⟨16, u, v, x⟩ w) := by
  subst hn
  have HG := Lib.hid (doG_plain (l := l) (o := ⟨16, u, v, x⟩) (by simp) (by simp) hq (.inr (.inl rfl)))
  have HAn : Hid (doA l ⟨16, u, v, x⟩ = ⟨0, hasB l u v, 0, hasW l u v, []⟩) := Lib.hid (by
    unfold doA
    rw [if_neg (by simp), if_neg (by rw [hq]; simp), if_neg (by simp), if_neg (by simp), if_neg (by simp), if_pos rfl])
  have HL := Lib.hid hl
  have T := Lib.hid (@after3 w 16 u v x)
  have HK := Lib.hid (keys_any ⟨16, u, v, x⟩ (w2 w 16 u v x))
  have HIu := Lib.hid (fun W h => @inAll A c l w 16 u v x hl hs (by omega) W h u)
  have HIv := Lib.hid (fun W h => @inAll A c l w 16 u v x hl hs (by omega) W h v)
  rw [hq] at HK
  unfold Op.val at HK
  simp only at HK
  have HH := Lib.hid (@hasAll A c l w 16 u v x hl hs (by omega))
  clear hl hq hs
  generalize inB l u = U at HIu
  generalize inB l v = V at HIv
  generalize hasB l u v = P at HAn HH
  generalize hasW l u v = Q at HAn HH
  cases U
  · go_enter Tryz.func96, Tryz.ntmps96
    go_wp2_with (first
      | (go_at_call 116; ((with_reducible refine HK.out.mono ?_); rintro e w' ⟨rfl, hb⟩; have Hc := Lib.hid hb; obtain ⟨hz, ⟨c1, c2, c3, c4⟩, _⟩ := T.out _ hb; have HZ' := Lib.hid hz; clear hb hz))
      | (go_at_call 117; ((with_reducible refine (HIu.out _ Hc.out).mono ?_); rintro e w4 ⟨rfl, hb⟩; have Hd := Lib.hid (Hc.out.trans (hb.mono Hc.out.size)); clear hb Hc HZ' c1 c2 c3 c4; have Hc := Hd; clear Hd; obtain ⟨hz, ⟨c1, c2, c3, c4⟩, _⟩ := T.out _ Hc.out; have HZ' := Lib.hid hz; have Ha := Lib.hid (Hc.out.alloc Hc.out.size (.cells #[.int .i64 0, .bool false, .int .i64 0, .int .u64 0, .slice none 0 0] 41)); obtain ⟨_, ⟨e1, e2, e3, e4⟩, _⟩ := T.out _ Ha.out; clear hz))
      | (go_at_call 117; ((with_reducible refine (HIv.out _ Hc.out).mono ?_); rintro e w5 ⟨rfl, hb⟩; clear Ha e1 e2 e3 e4; have Hd := Lib.hid (Hc.out.trans (hb.mono Hc.out.size)); clear hb Hc HZ' c1 c2 c3 c4; have Hc := Hd; clear Hd; obtain ⟨hz, ⟨c1, c2, c3, c4⟩, _⟩ := T.out _ Hc.out; have HZ' := Lib.hid hz; have Ha := Lib.hid (Hc.out.alloc Hc.out.size (.cells #[.int .i64 0, .bool false, .int .i64 0, .int .u64 0, .slice none 0 0] 41)); obtain ⟨_, ⟨e1, e2, e3, e4⟩, _⟩ := T.out _ Ha.out; clear hz))
      | (go_at_call 122; ((with_reducible refine (HH.out _ Ha.out).mono ?_); rintro e w6 ⟨rfl, hb⟩; have Hd := Lib.hid (Ha.out.trans (hb.mono Ha.out.size)); clear hb; obtain ⟨hz9, _, hb9⟩ := T.out _ Hd.out; have HZ9 := Lib.hid hz9; have HB9 := Lib.hid hb9; obtain ⟨z1, z2, z3, z4, z5, f1, f2, f3, f4, f5⟩ := hz9; clear hb9)))
    all_goals (try simp only [Exit.inBlock, Exit.then])
    all_goals exact do_fin w6 A none c 0 (w.heap.size + 1) 0 P 0 Q [] (by rw [HG.out]; rfl) rfl rfl HZ9.out (Nat.le_succ _) HB9.out (by rw [HG.out]; exact HL.out.below HB9.out (Nat.le_refl _)) HAn.out (sl_nil _ _)
  · go_enter Tryz.func96, Tryz.ntmps96
    go_wp2_with (first
      | (go_at_call 116; ((with_reducible refine HK.out.mono ?_); rintro e w' ⟨rfl, hb⟩; have Hc := Lib.hid hb; obtain ⟨hz, ⟨c1, c2, c3, c4⟩, _⟩ := T.out _ hb; have HZ' := Lib.hid hz; clear hb hz))
      | (go_at_call 117; ((with_reducible refine (HIu.out _ Hc.out).mono ?_); rintro e w4 ⟨rfl, hb⟩; have Hd := Lib.hid (Hc.out.trans (hb.mono Hc.out.size)); clear hb Hc HZ' c1 c2 c3 c4; have Hc := Hd; clear Hd; obtain ⟨hz, ⟨c1, c2, c3, c4⟩, _⟩ := T.out _ Hc.out; have HZ' := Lib.hid hz; have Ha := Lib.hid (Hc.out.alloc Hc.out.size (.cells #[.int .i64 0, .bool true, .int .i64 0, .int .u64 0, .slice none 0 0] 41)); obtain ⟨_, ⟨e1, e2, e3, e4⟩, _⟩ := T.out _ Ha.out; clear hz))
      | (go_at_call 117; ((with_reducible refine (HIv.out _ Hc.out).mono ?_); rintro e w5 ⟨rfl, hb⟩; clear Ha e1 e2 e3 e4; have Hd := Lib.hid (Hc.out.trans (hb.mono Hc.out.size)); clear hb Hc HZ' c1 c2 c3 c4; have Hc := Hd; clear Hd; obtain ⟨hz, ⟨c1, c2, c3, c4⟩, _⟩ := T.out _ Hc.out; have HZ' := Lib.hid hz; have Ha := Lib.hid (Hc.out.alloc Hc.out.size (.cells #[.int .i64 0, .bool true, .int .i64 0, .int .u64 0, .slice none 0 0] 41)); obtain ⟨_, ⟨e1, e2, e3, e4⟩, _⟩ := T.out _ Ha.out; clear hz))
      | (go_at_call 122; ((with_reducible refine (HH.out _ Ha.out).mono ?_); rintro e w6 ⟨rfl, hb⟩; have Hd := Lib.hid (Ha.out.trans (hb.mono Ha.out.size)); clear hb; obtain ⟨hz9, _, hb9⟩ := T.out _ Hd.out; have HZ9 := Lib.hid hz9; have HB9 := Lib.hid hb9; obtain ⟨z1, z2, z3, z4, z5, f1, f2, f3, f4, f5⟩ := hz9; clear hb9)))
    all_goals (try simp only [Exit.inBlock, Exit.then])
    all_goals exact do_fin w6 A none c 0 (w.heap.size + 1) 0 P 0 Q [] (by rw [HG.out]; rfl) rfl rfl HZ9.out (Nat.le_succ _) HB9.out (by rw [HG.out]; exact HL.out.below HB9.out (Nat.le_refl _)) HAn.out (sl_nil _ _)
set_option maxHeartbeats 8000000 in
set_option maxRecDepth 100000 in
theorem do_near (A : Option Addr) (c n : Nat) (l : List Arc) (u v x : Int) (w : World) (hn : n = l.length) (hl : Arcs w A l) (hs : Rises l) (h40 : l.length ≤ 999) (hq : keysB ⟨17, u, v, x⟩ = true) : Calls Tryz.prog 96 #[.slice A n c, .agg #[.int .i64 17, .int .i64 u, .int .i64 v, .int .u64 x]] w (DoPost l ⟨17, u, v, x⟩ w) := by
  subst hn
  have HG := Lib.hid (doG_plain (l := l) (o := ⟨17, u, v, x⟩) (by simp) (by simp) hq (.inr (.inr rfl)))
  have HAn : Hid (doA l ⟨17, u, v, x⟩ = ⟨0, inB l u, 0, 0, near l u⟩) := Lib.hid (by
    unfold doA
    rw [if_neg (by simp), if_neg (by rw [hq]; simp), if_neg (by simp), if_neg (by simp), if_pos rfl])
  have HL := Lib.hid hl
  have T := Lib.hid (@after3 w 17 u v x)
  have HK := Lib.hid (keys_any ⟨17, u, v, x⟩ (w2 w 17 u v x))
  have HIu := Lib.hid (fun W h => @inAll A c l w 17 u v x hl hs (by omega) W h u)
  have HIv := Lib.hid (fun W h => @inAll A c l w 17 u v x hl hs (by omega) W h v)
  rw [hq] at HK
  unfold Op.val at HK
  simp only at HK
  have HH := Lib.hid (@nearAll A c l w 17 u v x hl (by omega))
  clear hl hq hs
  generalize inB l u = U at HAn HIu
  generalize inB l v = V at HIv
  generalize near l u = nr at HAn HH
  cases U
  · go_enter Tryz.func96, Tryz.ntmps96
    go_wp2_with (first
      | (go_at_call 116; ((with_reducible refine HK.out.mono ?_); rintro e w' ⟨rfl, hb⟩; have Hc := Lib.hid hb; obtain ⟨hz, ⟨c1, c2, c3, c4⟩, _⟩ := T.out _ hb; have HZ' := Lib.hid hz; clear hb hz))
      | (go_at_call 117; ((with_reducible refine (HIu.out _ Hc.out).mono ?_); rintro e w4 ⟨rfl, hb⟩; have Hd := Lib.hid (Hc.out.trans (hb.mono Hc.out.size)); clear hb Hc HZ' c1 c2 c3 c4; have Hc := Hd; clear Hd; obtain ⟨hz, ⟨c1, c2, c3, c4⟩, _⟩ := T.out _ Hc.out; have HZ' := Lib.hid hz; have Ha := Lib.hid (Hc.out.alloc Hc.out.size (.cells #[.int .i64 0, .bool false, .int .i64 0, .int .u64 0, .slice none 0 0] 41)); obtain ⟨_, ⟨e1, e2, e3, e4⟩, _⟩ := T.out _ Ha.out; clear hz))
      | (go_at_call 117; ((with_reducible refine (HIv.out _ Hc.out).mono ?_); rintro e w5 ⟨rfl, hb⟩; clear Ha e1 e2 e3 e4; have Hd := Lib.hid (Hc.out.trans (hb.mono Hc.out.size)); clear hb Hc HZ' c1 c2 c3 c4; have Hc := Hd; clear Hd; obtain ⟨hz, ⟨c1, c2, c3, c4⟩, _⟩ := T.out _ Hc.out; have HZ' := Lib.hid hz; have Ha := Lib.hid (Hc.out.alloc Hc.out.size (.cells #[.int .i64 0, .bool false, .int .i64 0, .int .u64 0, .slice none 0 0] 41)); obtain ⟨_, ⟨e1, e2, e3, e4⟩, _⟩ := T.out _ Ha.out; clear hz))
      | (go_at_call 121; ((with_reducible refine (HH.out _ Ha.out).mono ?_); rintro e w6 ⟨B, d, rfl, ho, hb⟩; have sw4 : w4.heap.size < (w4.alloc (.cells #[.int .i64 0, .bool false, .int .i64 0, .int .u64 0, .slice none 0 0] 41)).heap.size := by rw [World.size_alloc]; omega)
         have HO := Lib.hid ho
         clear ho
         have Hd := Lib.hid (Ha.out.trans (hb.mono Ha.out.size)); have t1 := (hb.cell (p := ⟨w4.heap.size, 0, none⟩) sw4).trans (show (w4.alloc (.cells #[.int .i64 0, .bool false, .int .i64 0, .int .u64 0, .slice none 0 0] 41)).cell? ⟨w4.heap.size, 0, none⟩ = some (.int .i64 0) from (World.cell?_alloc_new _ _ _ _).trans rfl); have t2 := (hb.cell (p := ⟨w4.heap.size, 1, none⟩) sw4).trans (show (w4.alloc (.cells #[.int .i64 0, .bool false, .int .i64 0, .int .u64 0, .slice none 0 0] 41)).cell? ⟨w4.heap.size, 1, none⟩ = some (.bool false) from (World.cell?_alloc_new _ _ _ _).trans rfl); have t3 := (hb.cell (p := ⟨w4.heap.size, 2, none⟩) sw4).trans (show (w4.alloc (.cells #[.int .i64 0, .bool false, .int .i64 0, .int .u64 0, .slice none 0 0] 41)).cell? ⟨w4.heap.size, 2, none⟩ = some (.int .i64 0) from (World.cell?_alloc_new _ _ _ _).trans rfl); have t4 := (hb.cell (p := ⟨w4.heap.size, 3, none⟩) sw4).trans (show (w4.alloc (.cells #[.int .i64 0, .bool false, .int .i64 0, .int .u64 0, .slice none 0 0] 41)).cell? ⟨w4.heap.size, 3, none⟩ = some (.int .u64 0) from (World.cell?_alloc_new _ _ _ _).trans rfl); have t5 := (hb.cell (p := ⟨w4.heap.size, 4, none⟩) sw4).trans (show (w4.alloc (.cells #[.int .i64 0, .bool false, .int .i64 0, .int .u64 0, .slice none 0 0] 41)).cell? ⟨w4.heap.size, 4, none⟩ = some (.slice none 0 0) from (World.cell?_alloc_new _ _ _ _).trans rfl); have tz := keepFrozen hb sw4 4 (show (w4.alloc (.cells #[.int .i64 0, .bool false, .int .i64 0, .int .u64 0, .slice none 0 0] 41)).frozen? ⟨w4.heap.size, 4, none⟩ = false from by unfold World.frozen?; simp only []; rw [heap_alloc_new]; simp)
         have hsz := hb.size
         clear hb
         obtain ⟨hz9, _, hb9⟩ := T.out _ Hd.out
         have HZr := Lib.hid hz9
         have HBr := Lib.hid hb9
         clear hb9 hz9))
    have hsz2 : w.heap.size + 2 ≤ w4.heap.size := by have := Hc.out.size; rw [w2_size] at this; exact this
    have hne : w.heap.size + 1 ≠ w4.heap.size := by omega
    have hbx : w.heap.size ≤ w4.heap.size := by omega
    have HZ9 := Lib.hid (HZr.out.set hne [.slice B nr.length d] 4)
    have HB9 := Lib.hid (below_set w4.heap.size hbx [.slice B nr.length d] 4 HBr.out)
    have HS := Lib.hid (((SlFrom.of HO.out).set w4.heap.size sw4 [.slice B nr.length d] 4).set (w.heap.size + 1) (by omega) [.int .i64 0, .bool false, .int .i64 0, .int .u64 0, .slice B nr.length d] 0).sl
    have T1 : (w6.setCell ⟨w4.heap.size, 4, none⟩ (.slice B nr.length d)).cell? ⟨w4.heap.size, 0, none⟩ = some (.int .i64 0) := (World.cell?_setCell_other _ _ _ _ (by simp)).trans t1
    have T2 : (w6.setCell ⟨w4.heap.size, 4, none⟩ (.slice B nr.length d)).cell? ⟨w4.heap.size, 1, none⟩ = some (.bool false) := (World.cell?_setCell_other _ _ _ _ (by simp)).trans t2
    have T3 : (w6.setCell ⟨w4.heap.size, 4, none⟩ (.slice B nr.length d)).cell? ⟨w4.heap.size, 2, none⟩ = some (.int .i64 0) := (World.cell?_setCell_other _ _ _ _ (by simp)).trans t3
    have T4 : (w6.setCell ⟨w4.heap.size, 4, none⟩ (.slice B nr.length d)).cell? ⟨w4.heap.size, 3, none⟩ = some (.int .u64 0) := (World.cell?_setCell_other _ _ _ _ (by simp)).trans t4
    have T5 : (w6.setCell ⟨w4.heap.size, 4, none⟩ (.slice B nr.length d)).cell? ⟨w4.heap.size, 4, none⟩ = some (.slice B nr.length d) := World.cell?_setCell_same _ _ _ t5
    have W9 : w6.setCells w4.heap.size 4 [.slice B nr.length d] = w6.setCell ⟨w4.heap.size, 4, none⟩ (.slice B nr.length d) := rfl
    rw [W9] at HZ9 HB9 HS
    clear W9 t1 t2 t3 t4 t5 tz
    generalize w6.setCell ⟨w4.heap.size, 4, none⟩ (.slice B nr.length d) = w7 at HZ9 HB9 HS T1 T2 T3 T4 T5 ⊢
    obtain ⟨z1, z2, z3, z4, z5, f1, f2, f3, f4, f5⟩ := HZ9.out
    go_region
    all_goals go_wp2
    all_goals (try simp only [Exit.inBlock, Exit.then])
    all_goals exact do_finD w7 A B c d (w.heap.size + 1) 0 false 0 0 nr (by rw [HG.out]; rfl) rfl rfl HZ9.out (Nat.le_succ _) HB9.out (by rw [HG.out]; exact HL.out.below HB9.out (Nat.le_refl _)) HAn.out (HS.out)
  · go_enter Tryz.func96, Tryz.ntmps96
    go_wp2_with (first
      | (go_at_call 116; ((with_reducible refine HK.out.mono ?_); rintro e w' ⟨rfl, hb⟩; have Hc := Lib.hid hb; obtain ⟨hz, ⟨c1, c2, c3, c4⟩, _⟩ := T.out _ hb; have HZ' := Lib.hid hz; clear hb hz))
      | (go_at_call 117; ((with_reducible refine (HIu.out _ Hc.out).mono ?_); rintro e w4 ⟨rfl, hb⟩; have Hd := Lib.hid (Hc.out.trans (hb.mono Hc.out.size)); clear hb Hc HZ' c1 c2 c3 c4; have Hc := Hd; clear Hd; obtain ⟨hz, ⟨c1, c2, c3, c4⟩, _⟩ := T.out _ Hc.out; have HZ' := Lib.hid hz; have Ha := Lib.hid (Hc.out.alloc Hc.out.size (.cells #[.int .i64 0, .bool true, .int .i64 0, .int .u64 0, .slice none 0 0] 41)); obtain ⟨_, ⟨e1, e2, e3, e4⟩, _⟩ := T.out _ Ha.out; clear hz))
      | (go_at_call 117; ((with_reducible refine (HIv.out _ Hc.out).mono ?_); rintro e w5 ⟨rfl, hb⟩; clear Ha e1 e2 e3 e4; have Hd := Lib.hid (Hc.out.trans (hb.mono Hc.out.size)); clear hb Hc HZ' c1 c2 c3 c4; have Hc := Hd; clear Hd; obtain ⟨hz, ⟨c1, c2, c3, c4⟩, _⟩ := T.out _ Hc.out; have HZ' := Lib.hid hz; have Ha := Lib.hid (Hc.out.alloc Hc.out.size (.cells #[.int .i64 0, .bool true, .int .i64 0, .int .u64 0, .slice none 0 0] 41)); obtain ⟨_, ⟨e1, e2, e3, e4⟩, _⟩ := T.out _ Ha.out; clear hz))
      | (go_at_call 121; ((with_reducible refine (HH.out _ Ha.out).mono ?_); rintro e w6 ⟨B, d, rfl, ho, hb⟩; have sw5 : w5.heap.size < (w5.alloc (.cells #[.int .i64 0, .bool true, .int .i64 0, .int .u64 0, .slice none 0 0] 41)).heap.size := by rw [World.size_alloc]; omega)
         have HO := Lib.hid ho
         clear ho
         have Hd := Lib.hid (Ha.out.trans (hb.mono Ha.out.size)); have t1 := (hb.cell (p := ⟨w5.heap.size, 0, none⟩) sw5).trans (show (w5.alloc (.cells #[.int .i64 0, .bool true, .int .i64 0, .int .u64 0, .slice none 0 0] 41)).cell? ⟨w5.heap.size, 0, none⟩ = some (.int .i64 0) from (World.cell?_alloc_new _ _ _ _).trans rfl); have t2 := (hb.cell (p := ⟨w5.heap.size, 1, none⟩) sw5).trans (show (w5.alloc (.cells #[.int .i64 0, .bool true, .int .i64 0, .int .u64 0, .slice none 0 0] 41)).cell? ⟨w5.heap.size, 1, none⟩ = some (.bool true) from (World.cell?_alloc_new _ _ _ _).trans rfl); have t3 := (hb.cell (p := ⟨w5.heap.size, 2, none⟩) sw5).trans (show (w5.alloc (.cells #[.int .i64 0, .bool true, .int .i64 0, .int .u64 0, .slice none 0 0] 41)).cell? ⟨w5.heap.size, 2, none⟩ = some (.int .i64 0) from (World.cell?_alloc_new _ _ _ _).trans rfl); have t4 := (hb.cell (p := ⟨w5.heap.size, 3, none⟩) sw5).trans (show (w5.alloc (.cells #[.int .i64 0, .bool true, .int .i64 0, .int .u64 0, .slice none 0 0] 41)).cell? ⟨w5.heap.size, 3, none⟩ = some (.int .u64 0) from (World.cell?_alloc_new _ _ _ _).trans rfl); have t5 := (hb.cell (p := ⟨w5.heap.size, 4, none⟩) sw5).trans (show (w5.alloc (.cells #[.int .i64 0, .bool true, .int .i64 0, .int .u64 0, .slice none 0 0] 41)).cell? ⟨w5.heap.size, 4, none⟩ = some (.slice none 0 0) from (World.cell?_alloc_new _ _ _ _).trans rfl); have tz := keepFrozen hb sw5 4 (show (w5.alloc (.cells #[.int .i64 0, .bool true, .int .i64 0, .int .u64 0, .slice none 0 0] 41)).frozen? ⟨w5.heap.size, 4, none⟩ = false from by unfold World.frozen?; simp only []; rw [heap_alloc_new]; simp)
         have hsz := hb.size
         clear hb
         obtain ⟨hz9, _, hb9⟩ := T.out _ Hd.out
         have HZr := Lib.hid hz9
         have HBr := Lib.hid hb9
         clear hb9 hz9))
    have hsz2 : w.heap.size + 2 ≤ w5.heap.size := by have := Hc.out.size; rw [w2_size] at this; exact this
    have hne : w.heap.size + 1 ≠ w5.heap.size := by omega
    have hbx : w.heap.size ≤ w5.heap.size := by omega
    have HZ9 := Lib.hid (HZr.out.set hne [.slice B nr.length d] 4)
    have HB9 := Lib.hid (below_set w5.heap.size hbx [.slice B nr.length d] 4 HBr.out)
    have HS := Lib.hid (((SlFrom.of HO.out).set w5.heap.size sw5 [.slice B nr.length d] 4).set (w.heap.size + 1) (by omega) [.int .i64 0, .bool true, .int .i64 0, .int .u64 0, .slice B nr.length d] 0).sl
    have T1 : (w6.setCell ⟨w5.heap.size, 4, none⟩ (.slice B nr.length d)).cell? ⟨w5.heap.size, 0, none⟩ = some (.int .i64 0) := (World.cell?_setCell_other _ _ _ _ (by simp)).trans t1
    have T2 : (w6.setCell ⟨w5.heap.size, 4, none⟩ (.slice B nr.length d)).cell? ⟨w5.heap.size, 1, none⟩ = some (.bool true) := (World.cell?_setCell_other _ _ _ _ (by simp)).trans t2
    have T3 : (w6.setCell ⟨w5.heap.size, 4, none⟩ (.slice B nr.length d)).cell? ⟨w5.heap.size, 2, none⟩ = some (.int .i64 0) := (World.cell?_setCell_other _ _ _ _ (by simp)).trans t3
    have T4 : (w6.setCell ⟨w5.heap.size, 4, none⟩ (.slice B nr.length d)).cell? ⟨w5.heap.size, 3, none⟩ = some (.int .u64 0) := (World.cell?_setCell_other _ _ _ _ (by simp)).trans t4
    have T5 : (w6.setCell ⟨w5.heap.size, 4, none⟩ (.slice B nr.length d)).cell? ⟨w5.heap.size, 4, none⟩ = some (.slice B nr.length d) := World.cell?_setCell_same _ _ _ t5
    have W9 : w6.setCells w5.heap.size 4 [.slice B nr.length d] = w6.setCell ⟨w5.heap.size, 4, none⟩ (.slice B nr.length d) := rfl
    rw [W9] at HZ9 HB9 HS
    clear W9 t1 t2 t3 t4 t5 tz
    generalize w6.setCell ⟨w5.heap.size, 4, none⟩ (.slice B nr.length d) = w7 at HZ9 HB9 HS T1 T2 T3 T4 T5 ⊢
    obtain ⟨z1, z2, z3, z4, z5, f1, f2, f3, f4, f5⟩ := HZ9.out
    go_region
    all_goals go_wp2
    all_goals (try simp only [Exit.inBlock, Exit.then])
    all_goals exact do_finD w7 A B c d (w.heap.size + 1) 0 true 0 0 nr (by rw [HG.out]; rfl) rfl rfl HZ9.out (Nat.le_succ _) HB9.out (by rw [HG.out]; exact HL.out.below HB9.out (Nat.le_refl _)) HAn.out (HS.out)
end Go.Proofs.YtpdfmfkoopdfgaaGreatDoor.Gr
end
section
namespace Go.Proofs.YtpdfmfkoopdfgaaGreatDoor.Gr
set_option maxRecDepth 100000
open Go.RowKit Aid

theorem withAll {A : Option Addr} {c : Nat} {l : List Arc} {w : World} {k u v x : Int} (hl : Arcs w A l) (hs : Rises l) (h40 : l.length ≤ 999) (y : Arc) (hy : y.Fine) : ∀ W, Below (w2 w k u v x).heap.size (w2 w k u v x) W → Calls Tryz.prog 118 #[.slice A l.length c, .agg #[.int .i64 y.u, .int .i64 y.v, .int .u64 y.w]] W fun e w' => ∃ B d, e = .returned (.slice B (withL l y).length d) ∧ Arcs w' B (withL l y) ∧ Below W.heap.size W w' := fun W h => with_any A c l.length l y W rfl (hl.below (after2 W h).2.2 (Nat.le_refl _)) hs h40 hy
theorem keys_u {k u v x : Int} (h : keysB ⟨k, u, v, x⟩ = true) : isV u = true := by
  unfold keysB at h
  split at h
  · exact (Bool.and_eq_true _ _ ▸ h).1
  · exact h
theorem keys_v {k u v x : Int} (hk : k = 14 ∨ k = 15 ∨ k = 16) (h : keysB ⟨k, u, v, x⟩ = true) : isV v = true := by
  unfold keysB at h
  rw [if_pos (show edgeKind k = true from decide_eq_true hk)] at h
  exact (Bool.and_eq_true _ _ ▸ h).2
theorem fine_v {u : Int} (h : isV u = true) : Arc.Fine ⟨u, -1, 0⟩ := by
  have := isV_t h
  unfold Arc.Fine
  simp only
  omega
theorem fine_e {u v x : Int} (h : isV u = true) (h2 : isV v = true) (h3 : 0 ≤ x) (h4 : x < 18446744073709551616) : Arc.Fine ⟨u, v, x⟩ := by
  have := isV_t h
  have := isV_t h2
  unfold Arc.Fine
  simp only
  omega
set_option maxHeartbeats 8000000 in
set_option maxRecDepth 100000 in
theorem do_addv (A : Option Addr) (c n : Nat) (l : List Arc) (u v x : Int) (w : World) (hn : n = l.length) (hl : Arcs w A l) (hs : Rises l) (h40 : l.length ≤ 999) (hq : keysB ⟨11, u, v, x⟩ = true) : Calls Tryz.prog 96 #[.slice A n c, .agg #[.int .i64 11, .int .i64 u, .int .i64 v, .int .u64 x]] w (DoPost l ⟨11, u, v, x⟩ w) := by
  subst hn
  have HG : Hid (doG l ⟨11, u, v, x⟩ = withL l ⟨u, -1, 0⟩) := Lib.hid (by
    unfold doG
    rw [if_neg (by simp [hq]), if_pos rfl])
  have HAn : Hid (doA l ⟨11, u, v, x⟩ = ⟨0, !inB l u, 0, 0, []⟩) := Lib.hid (by
    unfold doA
    rw [if_neg (by simp), if_neg (by rw [hq]; simp), if_pos rfl])
  have HL := Lib.hid hl
  have T := Lib.hid (@after3 w 11 u v x)
  have HK := Lib.hid (keys_any ⟨11, u, v, x⟩ (w2 w 11 u v x))
  have HIu := Lib.hid (fun W h => @inAll A c l w 11 u v x hl hs (by omega) W h u)
  have HIv := Lib.hid (fun W h => @inAll A c l w 11 u v x hl hs (by omega) W h v)
  rw [hq] at HK
  unfold Op.val at HK
  simp only at HK
  have HH := Lib.hid (@withAll A c l w 11 u v x hl hs h40 ⟨u, -1, 0⟩ (fine_v (keys_u hq)))
  clear hl hq hs
  generalize inB l u = U at HAn HIu
  generalize inB l v = V at HIv
  generalize withL l ⟨u, -1, 0⟩ = M at HG HH
  cases U
  · go_enter Tryz.func96, Tryz.ntmps96
    go_wp2_with (first
      | (go_at_call 116; ((with_reducible refine HK.out.mono ?_); rintro e w' ⟨rfl, hb⟩; have Hc := Lib.hid hb; obtain ⟨hz, ⟨c1, c2, c3, c4⟩, _⟩ := T.out _ hb; have HZ' := Lib.hid hz; clear hb hz))
      | (go_at_call 117; ((with_reducible refine (HIu.out _ Hc.out).mono ?_); rintro e w4 ⟨rfl, hb⟩; have Hd := Lib.hid (Hc.out.trans (hb.mono Hc.out.size)); clear hb Hc HZ' c1 c2 c3 c4; have Hc := Hd; clear Hd; obtain ⟨hz, ⟨c1, c2, c3, c4⟩, _⟩ := T.out _ Hc.out; have HZ' := Lib.hid hz; have Ha := Lib.hid (Hc.out.alloc Hc.out.size (.cells #[.int .i64 0, .bool false, .int .i64 0, .int .u64 0, .slice none 0 0] 41)); obtain ⟨_, ⟨e1, e2, e3, e4⟩, _⟩ := T.out _ Ha.out; clear hz))
      | (go_at_call 117; ((with_reducible refine (HIv.out _ Hc.out).mono ?_); rintro e w5 ⟨rfl, hb⟩; clear Ha e1 e2 e3 e4; have Hd := Lib.hid (Hc.out.trans (hb.mono Hc.out.size)); clear hb Hc HZ' c1 c2 c3 c4; have Hc := Hd; clear Hd; obtain ⟨hz, ⟨c1, c2, c3, c4⟩, _⟩ := T.out _ Hc.out; have HZ' := Lib.hid hz; have Ha := Lib.hid (Hc.out.alloc Hc.out.size (.cells #[.int .i64 0, .bool false, .int .i64 0, .int .u64 0, .slice none 0 0] 41)); obtain ⟨_, ⟨e1, e2, e3, e4⟩, _⟩ := T.out _ Ha.out; clear hz))
      | (go_at_call 118; ((with_reducible refine (HH.out _ Ha.out).mono ?_); rintro e w6 ⟨B, d, rfl, h1, hb⟩; have H1 := Lib.hid h1; have Hd := Lib.hid (Ha.out.trans (hb.mono Ha.out.size)); clear hb h1; obtain ⟨hz9, _, hb9⟩ := T.out _ Hd.out; have HZ9 := Lib.hid hz9; have HB9 := Lib.hid hb9; obtain ⟨z1, z2, z3, z4, z5, f1, f2, f3, f4, f5⟩ := hz9; clear hb9)))
    all_goals (try simp only [Exit.inBlock, Exit.then])
    all_goals exact do_fin w6 B none d 0 (w.heap.size + 1) 0 true 0 0 [] (by rw [HG.out]; rfl) rfl rfl HZ9.out (Nat.le_succ _) HB9.out (by rw [HG.out]; exact H1.out) HAn.out (sl_nil _ _)
  · go_enter Tryz.func96, Tryz.ntmps96
    go_wp2_with (first
      | (go_at_call 116; ((with_reducible refine HK.out.mono ?_); rintro e w' ⟨rfl, hb⟩; have Hc := Lib.hid hb; obtain ⟨hz, ⟨c1, c2, c3, c4⟩, _⟩ := T.out _ hb; have HZ' := Lib.hid hz; clear hb hz))
      | (go_at_call 117; ((with_reducible refine (HIu.out _ Hc.out).mono ?_); rintro e w4 ⟨rfl, hb⟩; have Hd := Lib.hid (Hc.out.trans (hb.mono Hc.out.size)); clear hb Hc HZ' c1 c2 c3 c4; have Hc := Hd; clear Hd; obtain ⟨hz, ⟨c1, c2, c3, c4⟩, _⟩ := T.out _ Hc.out; have HZ' := Lib.hid hz; have Ha := Lib.hid (Hc.out.alloc Hc.out.size (.cells #[.int .i64 0, .bool true, .int .i64 0, .int .u64 0, .slice none 0 0] 41)); obtain ⟨_, ⟨e1, e2, e3, e4⟩, _⟩ := T.out _ Ha.out; clear hz))
      | (go_at_call 117; ((with_reducible refine (HIv.out _ Hc.out).mono ?_); rintro e w5 ⟨rfl, hb⟩; clear Ha e1 e2 e3 e4; have Hd := Lib.hid (Hc.out.trans (hb.mono Hc.out.size)); clear hb Hc HZ' c1 c2 c3 c4; have Hc := Hd; clear Hd; obtain ⟨hz, ⟨c1, c2, c3, c4⟩, _⟩ := T.out _ Hc.out; have HZ' := Lib.hid hz; have Ha := Lib.hid (Hc.out.alloc Hc.out.size (.cells #[.int .i64 0, .bool true, .int .i64 0, .int .u64 0, .slice none 0 0] 41)); obtain ⟨_, ⟨e1, e2, e3, e4⟩, _⟩ := T.out _ Ha.out; clear hz))
      | (go_at_call 118; ((with_reducible refine (HH.out _ Ha.out).mono ?_); rintro e w6 ⟨B, d, rfl, h1, hb⟩; have H1 := Lib.hid h1; have Hd := Lib.hid (Ha.out.trans (hb.mono Ha.out.size)); clear hb h1; obtain ⟨hz9, _, hb9⟩ := T.out _ Hd.out; have HZ9 := Lib.hid hz9; have HB9 := Lib.hid hb9; obtain ⟨z1, z2, z3, z4, z5, f1, f2, f3, f4, f5⟩ := hz9; clear hb9)))
    all_goals (try simp only [Exit.inBlock, Exit.then])
    all_goals exact do_fin w6 B none d 0 (w.heap.size + 1) 0 false 0 0 [] (by rw [HG.out]; rfl) rfl rfl HZ9.out (Nat.le_succ _) HB9.out (by rw [HG.out]; exact H1.out) HAn.out (sl_nil _ _)
set_option maxHeartbeats 8000000 in
set_option maxRecDepth 100000 in
theorem do_adde (A : Option Addr) (c n : Nat) (l : List Arc) (u v x : Int) (w : World) (hn : n = l.length) (hl : Arcs w A l) (hs : Rises l) (h40 : l.length ≤ 999) (hx0 : 0 ≤ x) (hx1 : x < 18446744073709551616) (hq : keysB ⟨14, u, v, x⟩ = true) : Calls Tryz.prog 96 #[.slice A n c, .agg #[.int .i64 14, .int .i64 u, .int .i64 v, .int .u64 x]] w (DoPost l ⟨14, u, v, x⟩ w) := by
  subst hn
  have hg : doG l ⟨14, u, v, x⟩ = if (inB l u && inB l v) = true then withL l ⟨u, v, x⟩ else l := by
    unfold doG both
    rw [if_neg (by simp [hq]), if_neg (by simp), if_neg (by simp)]
    by_cases hh : (inB l u && inB l v) = true
    · rw [if_pos ⟨rfl, hh⟩, if_pos hh]
    · rw [if_neg (fun e => hh e.2), if_neg (by simp), if_neg hh]
  have ha : doA l ⟨14, u, v, x⟩ = if (inB l u && inB l v) = true then ⟨0, false, 0, 0, []⟩ else ⟨5, false, 0, 0, []⟩ := by
    unfold doA both
    rw [if_neg (by simp), if_neg (by rw [hq]; simp), if_neg (by simp), if_neg (by simp), if_neg (by simp), if_neg (by simp)]
    by_cases hh : (inB l u && inB l v) = true
    · rw [if_neg (by rw [hh]; simp), if_pos hh]
    · rw [if_pos (by simpa using hh), if_neg hh]
  have HL := Lib.hid hl
  have T := Lib.hid (@after3 w 14 u v x)
  have HK := Lib.hid (keys_any ⟨14, u, v, x⟩ (w2 w 14 u v x))
  have HIu := Lib.hid (fun W h => @inAll A c l w 14 u v x hl hs (by omega) W h u)
  have HIv := Lib.hid (fun W h => @inAll A c l w 14 u v x hl hs (by omega) W h v)
  rw [hq] at HK
  unfold Op.val at HK
  simp only at HK
  have HH := Lib.hid (@withAll A c l w 14 u v x hl hs h40 ⟨u, v, x⟩ (fine_e (keys_u hq) (keys_v (.inl rfl) hq) hx0 hx1))
  clear hl hq hs hx0 hx1
  generalize inB l u = U at hg ha HIu
  generalize inB l v = V at hg ha HIv
  generalize withL l ⟨u, v, x⟩ = M at hg HH
  cases U
  · have HG := Lib.hid (show doG l ⟨14, u, v, x⟩ = l from hg.trans (by simp))
    have HAn := Lib.hid (show doA l ⟨14, u, v, x⟩ = ⟨5, false, 0, 0, []⟩ from ha.trans (by simp))
    clear hg ha
    go_enter Tryz.func96, Tryz.ntmps96
    go_wp2_with (first
      | (go_at_call 116; ((with_reducible refine HK.out.mono ?_); rintro e w' ⟨rfl, hb⟩; have Hc := Lib.hid hb; obtain ⟨hz, ⟨c1, c2, c3, c4⟩, _⟩ := T.out _ hb; have HZ' := Lib.hid hz; clear hb hz))
      | (go_at_call 117; ((with_reducible refine (HIu.out _ Hc.out).mono ?_); rintro e w4 ⟨rfl, hb⟩; have Hd := Lib.hid (Hc.out.trans (hb.mono Hc.out.size)); clear hb Hc HZ' c1 c2 c3 c4; have Hc := Hd; clear Hd; obtain ⟨hz, ⟨c1, c2, c3, c4⟩, _⟩ := T.out _ Hc.out; have HZ' := Lib.hid hz; have Ha := Lib.hid (Hc.out.alloc Hc.out.size (.cells #[.int .i64 0, .bool false, .int .i64 0, .int .u64 0, .slice none 0 0] 41)); obtain ⟨hz9, ⟨e1, e2, e3, e4⟩, hb9⟩ := T.out _ Ha.out; have HZ9 := Lib.hid hz9; have HB9 := Lib.hid hb9; obtain ⟨z1, z2, z3, z4, z5, f1, f2, f3, f4, f5⟩ := hz9; clear hb9; clear hz))
      | (go_at_call 117; ((with_reducible refine (HIv.out _ Hc.out).mono ?_); rintro e w5 ⟨rfl, hb⟩; clear Ha e1 e2 e3 e4 HZ9 HB9 z1 z2 z3 z4 z5 f1 f2 f3 f4 f5; have Hd := Lib.hid (Hc.out.trans (hb.mono Hc.out.size)); clear hb Hc HZ' c1 c2 c3 c4; have Hc := Hd; clear Hd; obtain ⟨hz, ⟨c1, c2, c3, c4⟩, _⟩ := T.out _ Hc.out; have HZ' := Lib.hid hz; have Ha := Lib.hid (Hc.out.alloc Hc.out.size (.cells #[.int .i64 0, .bool false, .int .i64 0, .int .u64 0, .slice none 0 0] 41)); obtain ⟨hz9, ⟨e1, e2, e3, e4⟩, hb9⟩ := T.out _ Ha.out; have HZ9 := Lib.hid hz9; have HB9 := Lib.hid hb9; obtain ⟨z1, z2, z3, z4, z5, f1, f2, f3, f4, f5⟩ := hz9; clear hb9; clear hz)))
    all_goals (try simp only [Exit.inBlock, Exit.then])
    all_goals exact do_fin (w4.alloc (.cells #[.int .i64 0, .bool false, .int .i64 0, .int .u64 0, .slice none 0 0] 41)) A none c 0 (w.heap.size + 1) 5 false 0 0 [] (by rw [HG.out]; rfl) rfl rfl HZ9.out (Nat.le_succ _) HB9.out (by rw [HG.out]; exact HL.out.below HB9.out (Nat.le_refl _)) HAn.out (sl_nil _ _)
  · cases V
    · have HG := Lib.hid (show doG l ⟨14, u, v, x⟩ = l from hg.trans (by simp))
      have HAn := Lib.hid (show doA l ⟨14, u, v, x⟩ = ⟨5, false, 0, 0, []⟩ from ha.trans (by simp))
      clear hg ha
      go_enter Tryz.func96, Tryz.ntmps96
      go_wp2_with (first
      | (go_at_call 116; ((with_reducible refine HK.out.mono ?_); rintro e w' ⟨rfl, hb⟩; have Hc := Lib.hid hb; obtain ⟨hz, ⟨c1, c2, c3, c4⟩, _⟩ := T.out _ hb; have HZ' := Lib.hid hz; clear hb hz))
      | (go_at_call 117; ((with_reducible refine (HIu.out _ Hc.out).mono ?_); rintro e w4 ⟨rfl, hb⟩; have Hd := Lib.hid (Hc.out.trans (hb.mono Hc.out.size)); clear hb Hc HZ' c1 c2 c3 c4; have Hc := Hd; clear Hd; obtain ⟨hz, ⟨c1, c2, c3, c4⟩, _⟩ := T.out _ Hc.out; have HZ' := Lib.hid hz; have Ha := Lib.hid (Hc.out.alloc Hc.out.size (.cells #[.int .i64 0, .bool true, .int .i64 0, .int .u64 0, .slice none 0 0] 41)); obtain ⟨hz9, ⟨e1, e2, e3, e4⟩, hb9⟩ := T.out _ Ha.out; have HZ9 := Lib.hid hz9; have HB9 := Lib.hid hb9; obtain ⟨z1, z2, z3, z4, z5, f1, f2, f3, f4, f5⟩ := hz9; clear hb9; clear hz))
      | (go_at_call 117; ((with_reducible refine (HIv.out _ Hc.out).mono ?_); rintro e w5 ⟨rfl, hb⟩; clear Ha e1 e2 e3 e4 HZ9 HB9 z1 z2 z3 z4 z5 f1 f2 f3 f4 f5; have Hd := Lib.hid (Hc.out.trans (hb.mono Hc.out.size)); clear hb Hc HZ' c1 c2 c3 c4; have Hc := Hd; clear Hd; obtain ⟨hz, ⟨c1, c2, c3, c4⟩, _⟩ := T.out _ Hc.out; have HZ' := Lib.hid hz; have Ha := Lib.hid (Hc.out.alloc Hc.out.size (.cells #[.int .i64 0, .bool true, .int .i64 0, .int .u64 0, .slice none 0 0] 41)); obtain ⟨hz9, ⟨e1, e2, e3, e4⟩, hb9⟩ := T.out _ Ha.out; have HZ9 := Lib.hid hz9; have HB9 := Lib.hid hb9; obtain ⟨z1, z2, z3, z4, z5, f1, f2, f3, f4, f5⟩ := hz9; clear hb9; clear hz)))
      all_goals (try simp only [Exit.inBlock, Exit.then])
      all_goals exact do_fin (w5.alloc (.cells #[.int .i64 0, .bool true, .int .i64 0, .int .u64 0, .slice none 0 0] 41)) A none c 0 (w.heap.size + 1) 5 false 0 0 [] (by rw [HG.out]; rfl) rfl rfl HZ9.out (Nat.le_succ _) HB9.out (by rw [HG.out]; exact HL.out.below HB9.out (Nat.le_refl _)) HAn.out (sl_nil _ _)
    · have HG := Lib.hid (show doG l ⟨14, u, v, x⟩ = M from hg.trans (by simp))
      have HAn := Lib.hid (show doA l ⟨14, u, v, x⟩ = ⟨0, false, 0, 0, []⟩ from ha.trans (by simp))
      clear hg ha
      go_enter Tryz.func96, Tryz.ntmps96
      go_wp2_with (first
      | (go_at_call 116; ((with_reducible refine HK.out.mono ?_); rintro e w' ⟨rfl, hb⟩; have Hc := Lib.hid hb; obtain ⟨hz, ⟨c1, c2, c3, c4⟩, _⟩ := T.out _ hb; have HZ' := Lib.hid hz; clear hb hz))
      | (go_at_call 117; ((with_reducible refine (HIu.out _ Hc.out).mono ?_); rintro e w4 ⟨rfl, hb⟩; have Hd := Lib.hid (Hc.out.trans (hb.mono Hc.out.size)); clear hb Hc HZ' c1 c2 c3 c4; have Hc := Hd; clear Hd; obtain ⟨hz, ⟨c1, c2, c3, c4⟩, _⟩ := T.out _ Hc.out; have HZ' := Lib.hid hz; have Ha := Lib.hid (Hc.out.alloc Hc.out.size (.cells #[.int .i64 0, .bool true, .int .i64 0, .int .u64 0, .slice none 0 0] 41)); obtain ⟨_, ⟨e1, e2, e3, e4⟩, _⟩ := T.out _ Ha.out; clear hz))
      | (go_at_call 117; ((with_reducible refine (HIv.out _ Hc.out).mono ?_); rintro e w5 ⟨rfl, hb⟩; clear Ha e1 e2 e3 e4; have Hd := Lib.hid (Hc.out.trans (hb.mono Hc.out.size)); clear hb Hc HZ' c1 c2 c3 c4; have Hc := Hd; clear Hd; obtain ⟨hz, ⟨c1, c2, c3, c4⟩, _⟩ := T.out _ Hc.out; have HZ' := Lib.hid hz; have Ha := Lib.hid (Hc.out.alloc Hc.out.size (.cells #[.int .i64 0, .bool true, .int .i64 0, .int .u64 0, .slice none 0 0] 41)); obtain ⟨_, ⟨e1, e2, e3, e4⟩, _⟩ := T.out _ Ha.out; clear hz))
      | (go_at_call 118; ((with_reducible refine (HH.out _ Ha.out).mono ?_); rintro e w6 ⟨B, d, rfl, h1, hb⟩; have H1 := Lib.hid h1; have Hd := Lib.hid (Ha.out.trans (hb.mono Ha.out.size)); clear hb h1; obtain ⟨hz9, _, hb9⟩ := T.out _ Hd.out; have HZ9 := Lib.hid hz9; have HB9 := Lib.hid hb9; obtain ⟨z1, z2, z3, z4, z5, f1, f2, f3, f4, f5⟩ := hz9; clear hb9)))
      all_goals (try simp only [Exit.inBlock, Exit.then])
      all_goals exact do_fin w6 B none d 0 (w.heap.size + 1) 0 false 0 0 [] (by rw [HG.out]; rfl) rfl rfl HZ9.out (Nat.le_succ _) HB9.out (by rw [HG.out]; exact H1.out) HAn.out (sl_nil _ _)
end Go.Proofs.YtpdfmfkoopdfgaaGreatDoor.Gr
end
