/- graph.Do: what it does, in words of lists; what is refused; questions. -/
import Derived.Test.YtmlcghbhkpbaeaaClos
import Derived.Test.YtmlcghbhkpbaeaaOuts
namespace Go.Proofs.Ytmlcghbhkpbaeaa
open Go.RowKit Aid

def inB (l : List Arc) (u : Int) : Bool := hasB l u (-1)
def both (l : List Arc) (o : Op) : Bool := inB l o.u && inB l o.v
/-- The graph behind an operation. -/
def doG (l : List Arc) (o : Op) : List Arc :=
  if (decide (o.k < 11 ∨ 17 < o.k) || !keysB o) = true then l
  else if o.k = 11 then withL l ⟨o.u, -1, 0⟩
  else if o.k = 12 then kept l (ends o)
  else if o.k = 14 ∧ both l o = true then withL l ⟨o.u, o.v, o.w⟩
  else if o.k = 15 ∧ both l o = true then kept l (isE o)
  else l
/-- What is answered. -/
def doA (l : List Arc) (o : Op) : Ans :=
  if o.k < 11 ∨ 17 < o.k then ⟨1, false, 0, 0, []⟩
  else if keysB o = false then ⟨4, false, 0, 0, []⟩
  else if o.k = 11 then ⟨0, !inB l o.u, 0, 0, []⟩
  else if o.k = 12 ∨ o.k = 13 then ⟨0, inB l o.u, 0, 0, []⟩
  else if o.k = 17 then ⟨0, inB l o.u, 0, 0, near l o.u⟩
  else if o.k = 16 then ⟨0, hasB l o.u o.v, 0, hasW l o.u o.v, []⟩
  else if both l o = false then ⟨5, false, 0, 0, []⟩
  else ⟨0, false, 0, 0, []⟩
def DoPost (l : List Arc) (o : Op) (w : World) (e : Ending) (w' : World) : Prop :=
  ∃ B d C f, e = .returned (.tuple #[.slice B (doG l o).length d, (doA l o).val C f]) ∧ Arcs w' B (doG l o) ∧ Sl w' C ((doA l o).list.map (Value.int .i64)) ∧ Below w.heap.size w w'
/-- The result's box, as it begins. -/
def ZeroOut (w : World) (b : Nat) : Prop :=
  w.cell? ⟨b, 0, none⟩ = some (.int .i64 0) ∧ w.cell? ⟨b, 1, none⟩ = some (.bool false) ∧ w.cell? ⟨b, 2, none⟩ = some (.int .i64 0) ∧ w.cell? ⟨b, 3, none⟩ = some (.int .u64 0) ∧ w.cell? ⟨b, 4, none⟩ = some (.slice none 0 0) ∧
  w.frozen? ⟨b, 0, none⟩ = false ∧ w.frozen? ⟨b, 1, none⟩ = false ∧ w.frozen? ⟨b, 2, none⟩ = false ∧ w.frozen? ⟨b, 3, none⟩ = false ∧ w.frozen? ⟨b, 4, none⟩ = false
theorem keepFrozen {B : Nat} {w w' : World} (hb : Below B w w') {g : Nat} (hg : g < B) (o : Nat) (h : w.frozen? ⟨g, o, none⟩ = false) : w'.frozen? ⟨g, o, none⟩ = false := by
  unfold World.frozen? at h ⊢
  simp only [] at h ⊢
  rw [hb.block g hg]; exact h
theorem ZeroOut.below {B : Nat} {w w' : World} {b : Nat} (h : ZeroOut w b) (hb : Below B w w') (hB : w.heap.size ≤ B) : ZeroOut w' b := by
  obtain ⟨h1, h2, h3, h4, h5, f1, f2, f3, f4, f5⟩ := h
  have hlt := Nat.lt_of_lt_of_le (World.block_lt_of_cell? w _ h1) hB
  exact ⟨(hb.cell (p := ⟨b, 0, none⟩) hlt).trans h1, (hb.cell (p := ⟨b, 1, none⟩) hlt).trans h2, (hb.cell (p := ⟨b, 2, none⟩) hlt).trans h3, (hb.cell (p := ⟨b, 3, none⟩) hlt).trans h4, (hb.cell (p := ⟨b, 4, none⟩) hlt).trans h5,
    keepFrozen hb hlt 0 f1, keepFrozen hb hlt 1 f2, keepFrozen hb hlt 2 f3, keepFrozen hb hlt 3 f4, keepFrozen hb hlt 4 f5⟩
/-- The world behind region 0. -/
abbrev w2 (w : World) (k u v x : Int) : World := (w.alloc (.cells #[.int .i64 k, .int .i64 u, .int .i64 v, .int .u64 x] 25)).alloc (.cells #[.int .i64 0, .bool false, .int .i64 0, .int .u64 0, .slice none 0 0] 31)
theorem w2_ok (w : World) (k u v x : Int) : OpAt (w2 w k u v x) w.heap.size ⟨k, u, v, x⟩ ∧ ZeroOut (w2 w k u v x) (w.heap.size + 1) ∧ Below w.heap.size w (w2 w k u v x) := by
  have hb : Below w.heap.size w (w2 w k u v x) := ((Below.refl w.heap.size w).alloc (Nat.le_refl _) _).alloc (by rw [World.size_alloc]; omega) _
  refine ⟨?_, ?_, hb⟩
  · have h : OpAt (w.alloc (.cells #[.int .i64 k, .int .i64 u, .int .i64 v, .int .u64 x] 25)) w.heap.size ⟨k, u, v, x⟩ := by
      refine ⟨?_, ?_, ?_, ?_⟩ <;> (rw [World.cell?_alloc_new]; rfl)
    exact h.below ((Below.refl _ _).alloc (Nat.le_refl _) _) (Nat.le_refl _)
  · have hs : w.heap.size + 1 = (w.alloc (.cells #[.int .i64 k, .int .i64 u, .int .i64 v, .int .u64 x] 25)).heap.size := by rw [World.size_alloc]
    rw [hs]
    refine ⟨?_, ?_, ?_, ?_, ?_, ?_, ?_, ?_, ?_, ?_⟩
    iterate 5 (first | (rw [World.cell?_alloc_new]; rfl) | skip)
    all_goals (first | (rw [World.cell?_alloc_new]; rfl) | (unfold World.frozen?; simp only []; rw [heap_alloc_new]; simp))
theorem sl_nil (w : World) (A : Option Addr) : Sl w A (([] : List Int).map (Value.int .i64)) := fun h => absurd h (by simp)
theorem w2_below (w : World) (o1 o2 : Obj) : Below w.heap.size w ((w.alloc o1).alloc o2) := ((Below.refl w.heap.size w).alloc (Nat.le_refl _) _).alloc (by rw [World.size_alloc]; omega) _
theorem do_ret {R : Ending → World → Prop} {a : Act} {W : World} {b : Nat} {cs : List Value} {g : Value} (h4 : a.tmps.getD 4 undef = g) (h5 : a.tmps.getD 5 undef = .pointer (some ⟨b, 0, none⟩)) (hd : a.defers = [])
    (hc : W.rangeAt b 0 cs) (hl : cs.length = 5) (hR : R (.returned (.tuple #[g, .agg cs.toArray])) W) : bodyPost Try.prog Try.f10 R .ret a W := by
  have hi : (Try.prog.info? 31).map (·.size) = some cs.length := by rw [hl]; kernel_rfl
  have hld := run_loadVar_mid (P := Try.prog) W b 0 31 cs _ hc Try.underlying31 rfl hi
  refine bodyPost_ret (v := .tuple #[g, .agg cs.toArray]) ?_ hd hR
  unfold results
  rw [show Try.f10.results = #[.tmp 4, .cell 5 31] from rfl]
  simp only [Array.getD_eq_getD_getElem?] at h4 h5
  simp [asAddr, h4, h5, hld]
theorem range_new (W : World) (cur : Array Value) (t : TypeId) : (W.alloc (.cells cur t)).rangeAt W.heap.size 0 cur.toList := fun j v hj => by
  rw [Nat.zero_add, World.cell?_alloc_new, ← hj, Array.getElem?_toList]
theorem range_new2 (W : World) (o : Obj) (cur : Array Value) (t : TypeId) : ((W.alloc o).alloc (.cells cur t)).rangeAt (W.heap.size + 1) 0 cur.toList := by
  have := range_new (W.alloc o) cur t
  rwa [World.size_alloc] at this
theorem ZeroOut.there {w : World} {b : Nat} (h : ZeroOut w b) : w.there b 0 5 := fun j hj => by
  obtain ⟨h1, h2, h3, h4, h5, f1, f2, f3, f4, f5⟩ := h
  rw [Nat.zero_add]
  have : j = 0 ∨ j = 1 ∨ j = 2 ∨ j = 3 ∨ j = 4 := by omega
  rcases this with rfl | rfl | rfl | rfl | rfl
  · exact ⟨by rw [h1]; rfl, f1⟩
  · exact ⟨by rw [h2]; rfl, f2⟩
  · exact ⟨by rw [h3]; rfl, f3⟩
  · exact ⟨by rw [h4]; rfl, f4⟩
  · exact ⟨by rw [h5]; rfl, f5⟩
theorem do_low (A : Option Addr) (c n : Nat) (l : List Arc) (k u v x : Int) (w : World) (hn : n = l.length) (hl : Arcs w A l) (hk : k < 11) : Calls Try.prog 10 #[.slice A n c, .agg #[.int .i64 k, .int .i64 u, .int .i64 v, .int .u64 x]] w (DoPost l ⟨k, u, v, x⟩ w) := by
  subst hn
  have hg : doG l ⟨k, u, v, x⟩ = l := by unfold doG; rw [if_pos (by simp [hk])]
  have ha : doA l ⟨k, u, v, x⟩ = ⟨1, false, 0, 0, []⟩ := by unfold doA; rw [if_pos (Or.inl hk)]
  have HL := Lib.hid hl
  unfold DoPost
  rw [hg, ha]
  clear hl hg ha
  go_enter Try.func10, Try.ntmps10
  go_wp2
  (try simp only [Exit.inBlock, Exit.then])
  refine do_ret rfl rfl rfl (range_new2 _ _ _ _) rfl ?_
  exact ⟨A, c, none, 0, rfl, HL.out.below (w2_below _ _ _) (Nat.le_refl _), sl_nil _ _, w2_below _ _ _⟩
theorem do_high (A : Option Addr) (c n : Nat) (l : List Arc) (k u v x : Int) (w : World) (hn : n = l.length) (hl : Arcs w A l) (hk : 17 < k) : Calls Try.prog 10 #[.slice A n c, .agg #[.int .i64 k, .int .i64 u, .int .i64 v, .int .u64 x]] w (DoPost l ⟨k, u, v, x⟩ w) := by
  subst hn
  have hg : doG l ⟨k, u, v, x⟩ = l := by unfold doG; rw [if_pos (by simp [hk])]
  have ha : doA l ⟨k, u, v, x⟩ = ⟨1, false, 0, 0, []⟩ := by unfold doA; rw [if_pos (Or.inr hk)]
  have HL := Lib.hid hl
  unfold DoPost
  rw [hg, ha]
  have hk1 : decide (k < 11) = false := by simp; omega
  have hk2 : decide (17 < k) = true := by simp; omega
  clear hl hg ha
  go_enter Try.func10, Try.ntmps10
  go_wp2
  (try simp only [Exit.inBlock, Exit.then])
  refine do_ret rfl rfl rfl (range_new2 _ _ _ _) rfl ?_
  exact ⟨A, c, none, 0, rfl, HL.out.below (w2_below _ _ _) (Nat.le_refl _), sl_nil _ _, w2_below _ _ _⟩
/-- Rows never lie in the result's box. -/
theorem arcs_box {W : World} {b : Nat} {B : Option Addr} {l : List Arc} (hz : ZeroOut W b) (h : Arcs W B l) (vs : List Value) (hv : vs.length = 5) : Arcs (W.setCells b 0 vs) B l := by
  obtain ⟨h1, h2, h3⟩ := h
  obtain ⟨z1, z2, z3, z4, z5, _⟩ := hz
  refine ⟨h1, h2, fun hp => ?_⟩
  obtain ⟨b', off, hA, hc⟩ := h3 hp
  refine ⟨b', off, hA, fun i a hi => ?_⟩
  obtain ⟨c1, c2, c3⟩ := hc i a hi
  have hfar : b' = b → 5 ≤ off + i * 3 := fun e => by
    subst e
    generalize off + i * 3 = p at c1 c2 c3
    rcases Nat.lt_or_ge p 5 with hlt | hge
    · have : p = 0 ∨ p = 1 ∨ p = 2 ∨ p = 3 ∨ p = 4 := by omega
      rcases this with rfl | rfl | rfl | rfl | rfl
      · rw [z2] at c2; cases c2
      · rw [z2] at c1; cases c1
      · rw [z4] at c2; cases c2
      · rw [z4] at c1; cases c1
      · rw [z5] at c1; cases c1
    · exact hge
  refine ⟨?_, ?_, ?_⟩
  · rw [World.cell?_setCells_out b vs 0 W _ (fun e _ => by have := hfar e; right; show 0 + vs.length ≤ off + i * 3; omega)]; exact c1
  · rw [World.cell?_setCells_out b vs 0 W _ (fun e _ => by have := hfar e; right; show 0 + vs.length ≤ off + i * 3 + 1; omega)]; exact c2
  · rw [World.cell?_setCells_out b vs 0 W _ (fun e _ => by have := hfar e; right; show 0 + vs.length ≤ off + i * 3 + 2; omega)]; exact c3
theorem do_fin {l : List Arc} {o : Op} {w : World} {a : Act} (W : World) (B C : Option Addr) (d f b : Nat) (e : Int) (i : Bool) (n x : Int) (li : List Int) (h4 : a.tmps.getD 4 undef = .slice B (doG l o).length d) (h5 : a.tmps.getD 5 undef = .pointer (some ⟨b, 0, none⟩)) (hd : a.defers = [])
    (hz : ZeroOut W b) (hb : w.heap.size ≤ b) (hbW : Below w.heap.size w W) (harcs : Arcs W B (doG l o)) (ha : doA l o = ⟨e, i, n, x, li⟩) (hs : Sl (W.setCells b 0 [.int .i64 e, .bool i, .int .i64 n, .int .u64 x, .slice C li.length f]) C (li.map (Value.int .i64))) :
    bodyPost Try.prog Try.f10 (DoPost l o w) .ret a (W.setCells b 0 [.int .i64 e, .bool i, .int .i64 n, .int .u64 x, .slice C li.length f]) := by
  refine do_ret h4 h5 hd (World.rangeAt_setCells_same W b 0 [.int .i64 e, .bool i, .int .i64 n, .int .u64 x, .slice C li.length f] hz.there) rfl ?_
  unfold DoPost
  rw [ha]
  exact ⟨B, d, C, f, rfl, arcs_box hz harcs _ rfl, hs, below_set b hb _ 0 hbW⟩
theorem after2 {w : World} {k u v x : Int} : ∀ w', Below (w2 w k u v x).heap.size (w2 w k u v x) w' → ZeroOut w' (w.heap.size + 1) ∧ OpAt w' w.heap.size ⟨k, u, v, x⟩ ∧ Below w.heap.size w w' := fun w' h => by
  obtain ⟨ho, hz, hb⟩ := w2_ok w k u v x
  exact ⟨hz.below h (Nat.le_refl _), ho.below h (Nat.le_refl _), hb.trans (h.mono hb.size)⟩
set_option maxHeartbeats 2000000 in
theorem do_key (A : Option Addr) (c n : Nat) (l : List Arc) (k u v x : Int) (w : World) (hn : n = l.length) (hl : Arcs w A l) (hk1 : 11 ≤ k) (hk2 : k ≤ 17) (hq : keysB ⟨k, u, v, x⟩ = false) : Calls Try.prog 10 #[.slice A n c, .agg #[.int .i64 k, .int .i64 u, .int .i64 v, .int .u64 x]] w (DoPost l ⟨k, u, v, x⟩ w) := by
  subst hn
  have hg : doG l ⟨k, u, v, x⟩ = l := by unfold doG; rw [if_pos (by simp [hq])]
  have ha : doA l ⟨k, u, v, x⟩ = ⟨4, false, 0, 0, []⟩ := by unfold doA; rw [if_neg (by simp only; omega), if_pos hq]
  have HL := Lib.hid hl
  have HG := Lib.hid hg
  have HAn := Lib.hid ha
  obtain ⟨ho, hz, hb⟩ := w2_ok w k u v x
  have T := Lib.hid (@after2 w k u v x)
  have HK := Lib.hid (keys_any ⟨k, u, v, x⟩ (w2 w k u v x))
  rw [hq] at HK
  unfold Op.val at HK
  simp only at HK
  have d1 : decide (k < 11) = false := by simp; omega
  have d2 : decide (17 < k) = false := by simp; omega
  obtain ⟨c1, c2, c3, c4⟩ := ho
  simp only at c1 c2 c3 c4
  clear hl hg ha hq hz hb
  go_enter Try.func10, Try.ntmps10
  go_wp2_with (first
    | (go_at_call 19; ((with_reducible refine HK.out.mono ?_); rintro e w' ⟨rfl, hb⟩; obtain ⟨hz, _, hbb⟩ := T.out _ hb; have HZ' := Lib.hid hz; have HBk := Lib.hid hbb; obtain ⟨z1, z2, z3, z4, z5, f1, f2, f3, f4, f5⟩ := hz; clear hb hbb)))
  (try simp only [Exit.inBlock, Exit.then])
  exact do_fin w' A none c 0 (w.heap.size + 1) 4 false 0 0 [] (by rw [HG.out]; rfl) rfl rfl HZ'.out (Nat.le_succ _) HBk.out (by rw [HG.out]; exact HL.out.below HBk.out (Nat.le_refl _)) HAn.out (sl_nil _ _)
end Go.Proofs.Ytmlcghbhkpbaeaa
