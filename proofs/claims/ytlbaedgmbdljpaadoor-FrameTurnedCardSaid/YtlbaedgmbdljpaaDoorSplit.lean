/- frame.Split: what it hands back, at every text of at most 100000 bytes. -/
import Derived.Test.YtlbaedgmbdljpaaDoorIter
import Derived.Maps.AppendAt
namespace Go.Proofs.YtlbaedgmbdljpaaDoor
open Go.RowKit Aid
attribute [local go_sem] Oper.semAt_some

theorem slice_info : (Tryd.prog.info? 22).map (fun i => (i.zero, i.size, i.bytes)) = some (some (.slice none 0 0), 1, 24) := by kernel_rfl
theorem row_calm {W W' : World} {row : Option Nat} {base : Nat} {e : TypeId} {v : Value} {n : Nat} {xs : List Value} (h : W.ownsRow base e 1 v n xs) (hg : W.grownBy W' row) (hr : ∀ r, row = some r → ∃ o : Obj, W.heap[r]? = some o ∧ o.isCells = false) : W'.ownsRow base e 1 v n xs := by
  refine h.kept hg ?_
  rcases h.2 with ⟨rfl, _⟩ | ⟨g, cap, cur, rfl, _, hgb, _⟩
  · exact .inl rfl
  · refine .inr fun e' => ?_
    obtain ⟨o, ho, hc⟩ := hr g e'.symm
    rw [hgb] at ho; cases ho; cases hc
theorem box_calm {W W' : World} {row : Option Nat} {B : Nat} {t : TypeId} {v : Value} (h : Boxed W B t v) (hg : W.grownBy W' row) (hr : ∀ r, row = some r → ∃ o : Obj, W.heap[r]? = some o ∧ o.isCells = false) : Boxed W' B t v :=
  h.kept hg fun e' => by
    obtain ⟨o, ho, hc⟩ := hr B e'.symm
    rw [show W.heap[B]? = _ from h] at ho; cases ho; cases hc
theorem rows_apart {W : World} {b1 b2 : Nat} {e1 e2 : TypeId} {u v : Value} {n m : Nat} {xs ys : List Value} (h1 : W.ownsRow b1 e1 1 u n xs) (h2 : W.ownsRow b2 e2 1 v m ys) (he : e1 ≠ e2) : u.ownBlock = none ∨ u.ownBlock ≠ v.ownBlock := by
  rcases h1.2 with ⟨rfl, _⟩ | ⟨g, cap, cur, rfl, _, hgb, _⟩
  · exact .inl rfl
  · rcases h2.2 with ⟨rfl, _⟩ | ⟨g', cap', cur', rfl, _, hgb', _⟩
    · exact .inr (by simp [Value.ownBlock])
    · refine .inr fun e => ?_
      obtain rfl : g = g' := by simpa [Value.ownBlock] using e
      rw [hgb] at hgb'
      cases hgb'
      exact he rfl
theorem row_far {W W' : World} {b : Nat} {base : Nat} {e : TypeId} {v : Value} {n : Nat} {xs : List Value} (h : W.ownsRow base e 1 v n xs) (hg : W.grownBy W' (some b)) (hb : b < base) : W'.ownsRow base e 1 v n xs :=
  h.kept hg (.inr fun e' => by have := (h.lt b e').1; omega)
theorem box_far {W W' : World} {B : Nat} {t : TypeId} {u : Value} {base : Nat} {e : TypeId} {v : Value} {n : Nat} {xs : List Value} {V : World} (hb : Boxed W B t u) (h : V.ownsRow base e 1 v n xs) (hg : W.grownBy W' v.ownBlock) (hB : B < base) : Boxed W' B t u :=
  hb.kept hg fun e' => by have := (h.lt B e'.symm).1; omega

/-- Between two rounds: the variables' boxes, the row of slices, their bytes. -/
def SJ (w : World) (A : Option Addr) (cap : Nat) (s : List Int) (st : St) (W : World) : Prop :=
  ∃ v, Boxed W w.heap.size 29 v ∧ W.ownsRow (w.heap.size + 3) 22 1 v st.1.length (st.1.map Prod.fst) ∧ Boxed W (w.heap.size + 1) 3 (.int .i64 (st.2 : Int)) ∧ Boxed W (w.heap.size + 2) 22 (.slice A s.length cap) ∧
    (∀ p ∈ st.1, W.ownsRow (w.heap.size + 3) 5 1 p.1 p.2.length (p.2.map (Value.int .u8)) ∧ 0 < p.2.length) ∧ w.heap.size + 3 ≤ W.heap.size ∧ Below w.heap.size w W
theorem SJ.calm (w : World) (A : Option Addr) (cap : Nat) (s : List Int) : Calm (w.heap.size + 3) (SJ w A cap s) := by
  rintro st W W' row ⟨v, h1, h2, h3, h4, h5, h6, h7⟩ hg hr
  have hr' : ∀ r, row = some r → ∃ o : Obj, W.heap[r]? = some o ∧ o.isCells = false := fun r e => (hr r e).2
  exact ⟨v, box_calm h1 hg hr', row_calm h2 hg hr', box_calm h3 hg hr', box_calm h4 hg hr', fun p hp => ⟨row_calm (h5 p hp).1 hg hr', (h5 p hp).2⟩, Nat.le_trans h6 hg.size, h7.grown hg h7.size (fun k e => by have := (hr k e).1; omega)⟩

theorem SJ.step {w W w1 : World} {A : Option Addr} {cap : Nat} {s : List Int} {pre : List (Value × List Int)} {e e' : Nat} {u v v' : Value} {x : List Int} {tmp : Obj}
    (h1 : Boxed W w.heap.size 29 v) (h2 : W.ownsRow (w.heap.size + 3) 22 1 v pre.length (pre.map Prod.fst)) (h3 : Boxed W (w.heap.size + 1) 3 (.int .i64 (e : Int))) (h4 : Boxed W (w.heap.size + 2) 22 (.slice A s.length cap))
    (h5 : ∀ p ∈ pre, W.ownsRow (w.heap.size + 3) 5 1 p.1 p.2.length (p.2.map (Value.int .u8)) ∧ 0 < p.2.length) (h6 : w.heap.size + 3 ≤ W.heap.size) (h7 : Below w.heap.size w W)
    (hu : W.ownsRow (w.heap.size + 3) 5 1 u x.length (x.map (Value.int .u8))) (hx : 0 < x.length)
    (ho : w1.ownsRow (w.heap.size + 3) 22 1 v' (pre.length + 1) (pre.map Prod.fst ++ [u])) (hg : (W.alloc tmp).grownBy w1 v.ownBlock) :
    Boxed w1 w.heap.size 29 v ∧ Boxed (w1.setCell ⟨w.heap.size, 0, none⟩ v') (w.heap.size + 1) 3 (.int .i64 (e : Int)) ∧
      SJ w A cap s (pre ++ [(u, x)], e') ((w1.setCell ⟨w.heap.size, 0, none⟩ v').setCell ⟨w.heap.size + 1, 0, none⟩ (.int .i64 (e' : Int))) ∧
      KeepsFrom (w.heap.size + 3) W ((w1.setCell ⟨w.heap.size, 0, none⟩ v').setCell ⟨w.heap.size + 1, 0, none⟩ (.int .i64 (e' : Int))) := by
  have g1 := grownBy_setCell' w1 w.heap.size v'
  have g2 := grownBy_setCell' (w1.setCell ⟨w.heap.size, 0, none⟩ v') (w.heap.size + 1) (.int .i64 (e' : Int))
  have k1 : Boxed w1 w.heap.size 29 v := box_far (h1.alloc tmp) h2 hg (by omega)
  have k3 : Boxed w1 (w.heap.size + 1) 3 (.int .i64 (e : Int)) := box_far (h3.alloc tmp) h2 hg (by omega)
  have k4 : Boxed w1 (w.heap.size + 2) 22 (.slice A s.length cap) := box_far (h4.alloc tmp) h2 hg (by omega)
  have k3' := k3.kept g1 (by simp)
  have kc : ∀ p : Value × List Int, W.ownsRow (w.heap.size + 3) 5 1 p.1 p.2.length (p.2.map (Value.int .u8)) → ((w1.setCell ⟨w.heap.size, 0, none⟩ v').setCell ⟨w.heap.size + 1, 0, none⟩ (.int .i64 (e' : Int))).ownsRow (w.heap.size + 3) 5 1 p.1 p.2.length (p.2.map (Value.int .u8)) := fun p hp =>
    row_far (row_far ((hp.alloc tmp).kept hg (rows_apart hp h2 (by decide))) g1 (by omega)) g2 (by omega)
  refine ⟨k1, k3', ⟨v', (k1.set v').kept g2 (by simp), ?_, k3'.set _, (k4.kept g1 (by simp)).kept g2 (by simp), ?_, ?_, ?_⟩, ?_, ?_⟩
  · have := row_far (row_far ho g1 (by omega)) g2 (by omega)
    simpa using this
  · intro p hp
    rcases List.mem_append.1 hp with h | h
    · exact ⟨kc p (h5 p h).1, (h5 p h).2⟩
    · obtain rfl := List.mem_singleton.1 h
      exact ⟨kc (u, x) hu, hx⟩
  · have := hg.size; have := g1.size; have := g2.size; rw [World.size_alloc] at *; omega
  · exact (((h7.alloc h7.size tmp).grown hg (by rw [World.size_alloc]; have := h7.size; omega) (fun k e' => by have := (h2.lt k e').1; omega)).setCell (p := ⟨w.heap.size, 0, none⟩) (Nat.le_refl _) _).setCell (p := ⟨w.heap.size + 1, 0, none⟩) (by show w.heap.size ≤ w.heap.size + 1; omega) _
  · have := hg.size; have := g1.size; have := g2.size; rw [World.size_alloc] at *; omega
  · intro k o hk hW ho'
    have hlt := (Array.getElem?_eq_some_iff.1 hW).1
    have a1 : (W.alloc tmp).heap[k]? = some o := (Below.heap_alloc W tmp k hlt).trans hW
    have a2 : w1.heap[k]? = some o := (hg.block k (Array.getElem?_eq_some_iff.1 a1).1 (fun e' => by
      rcases h2.2 with ⟨rfl, _⟩ | ⟨g, _, cur, rfl, _, hgb, _⟩
      · cases e'
      · obtain rfl : k = g := by simpa [Value.ownBlock] using e'
        rw [hgb] at hW; cases hW; cases ho')).trans a1
    have a3 := (g1.block k (Array.getElem?_eq_some_iff.1 a2).1 (by simp; omega)).trans a2
    exact (g2.block k (Array.getElem?_eq_some_iff.1 a3).1 (by simp; omega)).trans a3

theorem below_drewN {B : Nat} {w W : World} (h : Below B w W) : ∀ n, Below B w (W.drewN n)
  | 0 => h
  | n + 1 => (below_drewN h n).drew
/-- A row of slices of the call's own, each of which owns its bytes. -/
def Own2 (base : Nat) (W : World) (v : Value) (L : List (List Int)) : Prop :=
  ∃ ps : List (Value × List Int), L = ps.map Prod.snd ∧ W.ownsRow base 22 1 v ps.length (ps.map Prod.fst) ∧ ∀ p ∈ ps, W.ownsRow base 5 1 p.1 p.2.length (p.2.map (Value.int .u8)) ∧ 0 < p.2.length
/-- One element of the iterator's. -/
def Stp (H : Nat) (st st' : St) (vs : Array Value) (W : World) : Prop :=
  ∃ u x, st'.1 = st.1 ++ [(u, x)] ∧ vs = #[.int .i64 (st'.2 : Int), u] ∧ W.ownsRow H 5 1 u x.length (x.map (Value.int .u8)) ∧ 0 < x.length ∧ st.1.length < 100000
theorem Stp.calm (H : Nat) (st st' : St) (vs : Array Value) : Calm H (fun (_ : Unit) W => Stp H st st' vs W) := by
  rintro _ W W' row ⟨u, x, h1, h2, h3, h4, h5⟩ hg hr
  exact ⟨u, x, h1, h2, row_calm h3 hg (fun r e => (hr r e).2), h4, h5⟩

set_option maxRecDepth 100000 in
set_option maxHeartbeats 4000000 in
theorem split_any (A : Option Addr) (cap n : Nat) (s : List Int) (w : World) (hn : n = s.length) (hcap : s.length ≤ cap) (hs : s.length ≤ 100000) (ht : Tab w) (hl : Bytes w A s) :
    Calls Tryd.prog 12 #[.slice A n cap] w fun e w' => ∃ v, e = .returned (.tuple #[v, .int .i64 ((splitOf s).2 : Int)]) ∧ Own2 w.heap.size w' v (splitOf s).1 ∧ Below w.heap.size w w' := by
  subst hn
  have HT := Lib.hid ht
  have HL := Lib.hid hl
  clear ht hl
  obtain ⟨i0, hi0, hz0, hz1, hz2⟩ := info_parts slice_info
  refine (callsIn_wide (n := 9)).1 ?_
  refine callsIn_of_wp_marks Tryd.func12 rfl trivial ?_ rfl
  simp only [Tryd.ntmps12, List.size_toArray, List.length_cons, List.length_nil, Nat.reduceAdd, Nat.reduceSub, Array.replicate_succ, Array.replicate_zero, List.push_toArray, List.append_toArray, List.nil_append, List.cons_append]
  gi_wp2_with (refine ⟨trivial, ?_⟩; gi_at_call 18; refine (frames_any _ A s.length cap _).mono ?_; rintro e w' ⟨rfl, rfl⟩)
  have j0 : SJ w A cap s ([], 0) (((w.alloc (Obj.cells #[Value.slice none 0 0] 29)).alloc (Obj.cells #[Value.int IntKind.i64 0] 3)).alloc (Obj.cells #[Value.slice A s.length cap] 22)) := by
    refine ⟨.slice none 0 0, ((Boxed.new w 29 _).alloc _).alloc _, World.ownsRow_nil _ _ _ _, ?_, ?_, fun p hp => (by cases hp), by simp, (((Below.refl _ w).alloc (Nat.le_refl _) _).alloc (by simp) _).alloc (by simp; omega) _⟩
    · have := Boxed.new (w.alloc (Obj.cells #[Value.slice none 0 0] 29)) 3 (.int .i64 0)
      rw [World.size_alloc] at this
      exact this.alloc _
    · have := Boxed.new ((w.alloc (Obj.cells #[Value.slice none 0 0] 29)).alloc (Obj.cells #[Value.int IntKind.i64 0] 3)) 22 (.slice A s.length cap)
      rw [World.size_alloc, World.size_alloc] at this
      exact this
  have hsz : (((w.alloc (Obj.cells #[Value.slice none 0 0] 29)).alloc (Obj.cells #[Value.int IntKind.i64 0] 3)).alloc (Obj.cells #[Value.slice A s.length cap] 22)).heap.size = w.heap.size + 3 := by simp
  generalize (((w.alloc (Obj.cells #[Value.slice none 0 0] 29)).alloc (Obj.cells #[Value.int IntKind.i64 0] 3)).alloc (Obj.cells #[Value.slice A s.length cap] 22)) = W0 at j0 hsz ⊢
  refine range_law (by omega) (gf := 21) (lb := #[.pointer (some ⟨w.heap.size + 2, 0, none⟩)]) rfl (enters_of Tryd.func21 (by kernel_rfl) rfl) (SJ w A cap s) ([], 0) (fun st => (st.1.map Prod.snd, st.2) = splitOf s) (Stp (w.heap.size + 3))
    (by rw [hsz]; exact SJ.calm w A cap s) (by rw [hsz]; exact Stp.calm _) ?sizes j0 ?iter
    (fun vs => { tmps := #[.slice A s.length cap, undef, .slice none 0 0, .int .i64 0, .pointer (some ⟨w.heap.size, 0, none⟩), .pointer (some ⟨w.heap.size + 1, 0, none⟩), vs.getD 0 undef, vs.getD 1 undef, .slice A s.length cap, .func (.func 21) #[] #[.pointer (some ⟨w.heap.size + 2, 0, none⟩)], vs.getD 0 undef, vs.getD 1 undef, undef, undef, undef, undef, undef, undef, undef], defers := [] })
    ?assign ?body ?done
  case sizes =>
    rintro st st' vs W ⟨u, x, _, rfl, _⟩
    rfl
  case iter =>
    intro l J' W hJ' hg hY h0
    refine frames1_in l (w.heap.size + 3) (w.heap.size + 2) A cap s hcap hs J' ?_ hg ?_ W h0
    · intro st W hj
      obtain ⟨v, h1, h2, h3, h4, h5, h6, h7⟩ := hJ' st W hj
      exact ⟨h4, HT.out.below h7 HT.out.heap, HL.out.below h7 (Nat.le_refl _), h6⟩
    · intro pre e e' z u x W hz hj ho hx hlen
      subst hz
      exact hY (pre, e) (pre ++ [(u, x)], e') _ W hj ⟨u, x, rfl, rfl, ho, hx, hlen⟩
  case assign =>
    rintro l st st' vs W K ⟨u, x, _, rfl, _⟩ hK
    gi_wp2
    exact hK
  case body =>
    rintro l ⟨pre, e⟩ ⟨pre', e'⟩ vs W ⟨v, h1, h2, h3, h4, h5, h6, h7⟩ ⟨u, x, hp, rfl, ho, hx, hlen⟩
    obtain rfl : pre' = pre ++ [(u, x)] := hp
    obtain ⟨g, cu, rfl⟩ : ∃ g cu, u = .slice (some ⟨g, 0, none⟩) x.length cu := by
      rcases own_form ho with ⟨_, h, _⟩ | ⟨g, cu, h, _⟩
      · omega
      · exact ⟨g, cu, h⟩
    have hc := h1.cell
    have hone := Lib.hid (show ∀ y ∈ [Value.slice (some ⟨g, 0, none⟩) x.length cu], y.oneCell' = true from fun y hy => by rw [List.mem_singleton.1 hy]; rfl)
    have b1 : pre.length + 1 ≤ maxLen := by unfold maxLen; have : pre.length < 100000 := hlen; omega
    have b2 : (pre.length + 1) * 24 ≤ 140737488355328 := by have : pre.length < 100000 := hlen; omega
    have b3 := Lib.hid (show w.heap.size + 3 ≤ (W.alloc (.cells #[Value.slice (some ⟨g, 0, none⟩) x.length cu] 22)).heap.size from by rw [World.size_alloc]; omega)
    have H1 := Lib.hid h1
    have H2 := Lib.hid h2
    have H3 := Lib.hid h3
    have H4 := Lib.hid h4
    have H5 := Lib.hid h5
    have H6 := Lib.hid h6
    have H7 := Lib.hid h7
    have HO := Lib.hid ho
    have HLEN := Lib.hid hlen
    clear h1 h2 h3 h4 h5 h6 h7 ho hlen
    change Code.wpIn _ _ _ _ _ { tmps := #[.slice A s.length cap, undef, .slice none 0 0, .int .i64 0, .pointer (some ⟨w.heap.size, 0, none⟩), .pointer (some ⟨w.heap.size + 1, 0, none⟩), .int .i64 (e' : Int), .slice (some ⟨g, 0, none⟩) x.length cu, .slice A s.length cap, .func (.func 21) #[] #[.pointer (some ⟨w.heap.size + 2, 0, none⟩)], .int .i64 (e' : Int), .slice (some ⟨g, 0, none⟩) x.length cu, undef, undef, undef, undef, undef, undef, undef], defers := [] } W
    gi_wp2_with (gi_at_builtin; refine wpListIn_append_own _ rfl _ _ 29 rfl (w.heap.size + 3) 22 i0 (.slice none 0 0) 1 24 Tryd.underlying29 hi0 hz0 hz1 hz2 rfl (by decide) v pre.length (pre.map Prod.fst) rfl (H2.out.alloc _) ⟨W.heap.size, 0, none⟩ 1 1 [Value.slice (some ⟨g, 0, none⟩) x.length cu] rfl rfl (cell_one_new _ _ _) hone.out b1 b2 b3.out ?_; intro v' w1 hown' hgrow _; obtain ⟨k1, k3, hsj, hkf⟩ := SJ.step (A := A) (cap := cap) (s := s) (e' := e') H1.out H2.out H3.out H4.out H5.out H6.out H7.out HO.out hx hown' hgrow; have HSJ := Lib.hid hsj; have HKF := Lib.hid hkf; obtain ⟨g', cap', rfl⟩ := ownsRow_succ hown'; clear hown' hgrow hsj hkf; have hc1 := k1.cell; have hf1 := k1.frozen; have hc3 := k3.cell; have hf3 := k3.frozen; clear k1 k3)
    exact ⟨HKF.out, HSJ.out⟩
  case done =>
    intro D st W hD hfin hj hK
    obtain ⟨v, h1, h2, h3, h4, h5, h6, h7⟩ := hj
    have hc := h1.cell
    have hc3 := h3.cell
    gi_wp2
    refine wpIn_wide.2 ?_
    go_quiet (fail)
    gi_wp2
    refine ⟨by simp, .inl ⟨_, _, rfl, run_takeDeferred (w := W.drewN nq) hK, ?_⟩⟩
    have hb : Below w.heap.size w (W.drewN nq) := below_drewN h7 nq
    have hd : w.heap.size ≤ D := by omega
    refine ⟨_, results_tmp2 rfl _ _ _, v, ?_, ⟨st.1, ?_, ?_, ?_⟩, hb.trans (belowK_b (w := w) (Nat.le_refl _) (W.drewN nq) D _ _ hd hK rfl rfl)⟩
    · rw [← hfin]; rfl
    · rw [← hfin]
    · exact row_mono (ownsRow_putObj (W := W.drewN nq) h2 _ hK rfl) (by omega)
    · exact fun p hp => ⟨row_mono (ownsRow_putObj (W := W.drewN nq) (h5 p hp).1 _ hK rfl) (by omega), (h5 p hp).2⟩
end Go.Proofs.YtlbaedgmbdljpaaDoor
