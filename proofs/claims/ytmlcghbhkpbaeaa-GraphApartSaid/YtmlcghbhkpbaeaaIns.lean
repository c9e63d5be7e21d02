/- slices.Insert of one row. -/
import Derived.Test.YtmlcghbhkpbaeaaMem
import Derived.Lib.Overlaps
import Derived.Lib.AppendZerosOnto
import Derived.Lib.SliceRun
import Derived.Laws.Externs
import Derived.Deep.RegionLaw
namespace Go.Proofs.Ytmlcghbhkpbaeaa
open Go.RowKit Aid

theorem run_copy_k {P : Program} (w : World) (dT sT ty elem : TypeId) (size b o dLen dCap : Nat) (a : Addr) (sLen sCap : Nat) (cs : List Value)
    (hu : P.underlying dT = some (.slice elem)) (hs : (P.info? elem).map (·.size) = some size) (hn : cs.length = Nat.min sLen dLen * size)
    (hsrc : ∀ j v, cs[j]? = some v → w.cell? (a.add j) = some v) (ht : w.there b o cs.length) (h1 : ∀ v ∈ cs, v.oneCell' = true) :
    (Builtin.copy_ #[dT, sT] ty #[.slice (some ⟨b, o, none⟩) dLen dCap, .slice (some a) sLen sCap]).run P w = .ok (goInt (Nat.min sLen dLen)) (w.setCells b o cs) := by
  have hl := run_loadCells_list (P := P) w a cs hsrc
  have hst := run_storeCells_cells (P := P) b o cs 0 w (by simpa using fun j hj => (ht j hj).1) (by simpa using fun j hj => (ht j hj).2) h1
  cases hq : P.info? elem with
  | none => simp [hq] at hs
  | some i =>
    have hi : i.size = size := by simpa [hq] using hs
    simp [Builtin.copy_, run_underlying hu, Builtin.lenOf, Builtin.firstCells, sizeOf, typeInfo, hq, hi, ← hn, hl, hst]
theorem wp_copy_run {P : Program} (w : World) {o : Oper} {a : Act} {K : Act → World → Prop} {Q : Exit → Act → World → Prop} (d s : Operand) (t t' : TypeId)
    (ho : o.op = .call { callee := .builtin .copy, args := #[d, s], argTypes := #[t, t'] }) (v u : Value) (hd : a.eval d = v) (hs : a.eval s = u) {v' : Value} {w' : World}
    (hr : (Builtin.copy_ #[t, t'] o.type #[v, u]).run P w = .ok v' w') (h : K (a.put o.dst v') w') : o.wp P a w K Q := by
  unfold Oper.wp execOp
  simp only [ho, resolve, invoke, builtin, Sem.run_bind, Sem.run_pure, Result.andThen_ok, List.map_toArray, List.map_cons, List.map_nil, hd, hs, hr]
  exact h
theorem wpList_copy_run {P : Program} (w : World) {ops : Array Oper} {rest : List Oper} {o : Oper} {a : Act} {Q : Exit → Act → World → Prop} (hgd : o.guard = none) (d s : Operand) (t t' : TypeId)
    (ho : o.op = .call { callee := .builtin .copy, args := #[d, s], argTypes := #[t, t'] }) (v u : Value) (hd : a.eval d = v) (hs : a.eval s = u) {v' : Value} {w' : World}
    (hr : (Builtin.copy_ #[t, t'] o.type #[v, u]).run P w = .ok v' w') (h : wpList P ops Q rest (a.put o.dst v') w') : wpList P ops Q (o :: rest) a w :=
  wpList_plain hgd fun _ hK => wp_copy_run w d s t t' ho v u hd hs hr (hK _ _ h)
theorem step_copy_run {P : Program} {ops : Array Oper} {o : Oper} {a : Act} {w : World} {K : Act → World → Prop} {Q : Exit → Act → World → Prop} {E : Prop}
    (hg : o.guard = none) (d x : Operand) (dT sT : TypeId) (hop : o.op = Op.call { callee := Callee.builtin Builtin.copy, args := #[d, x], argTypes := #[dT, sT] })
    (v u : Value) (hd : a.eval d = v) (hx : a.eval x = u) {v' : Value} {w' : World} (hr : (Builtin.copy_ #[dT, sT] o.type #[v, u]).run P w = .ok v' w') (hK : K (a.put o.dst v') w') :
    if Region.wanted o (yielded ops a.tmps) = true then Oper.wp P o a w K Q else E := by
  have hw : Region.wanted o (yielded ops a.tmps) = true := by simp [Region.wanted, hg]
  rw [if_pos hw]
  exact wp_copy_run w d x dT sT hop v u hd hx hr hK
theorem range_append {w : World} {b o : Nat} {xs ys : List Value} (h1 : w.rangeAt b o xs) (h2 : w.rangeAt b (o + xs.length) ys) : w.rangeAt b o (xs ++ ys) := fun j v hj => by
  by_cases h : j < xs.length
  · rw [List.getElem?_append_left h] at hj
    exact h1 j v hj
  · rw [List.getElem?_append_right (by omega)] at hj
    have := h2 _ v hj
    rwa [show o + xs.length + (j - xs.length) = o + j from by omega] at this
theorem range_left {w : World} {b o : Nat} {xs ys : List Value} (h : w.rangeAt b o (xs ++ ys)) : w.rangeAt b o xs := fun j v hj => h j v (by rw [List.getElem?_append_left (List.getElem?_eq_some_iff.1 hj).1]; exact hj)
theorem range_right {w : World} {b o : Nat} {xs ys : List Value} (h : w.rangeAt b o (xs ++ ys)) : w.rangeAt b (o + xs.length) ys := fun j v hj => by
  have := h (xs.length + j) v (by rw [List.getElem?_append_right (by omega), Nat.add_sub_cancel_left]; exact hj)
  rwa [← Nat.add_assoc] at this
theorem there_sub {w : World} {b o n o' n' : Nat} (h : w.there b o n) (h1 : o ≤ o') (h2 : o' + n' ≤ o + n) : w.there b o' n' := fun j hj => by
  have := h (o' - o + j) (by omega)
  rwa [show o + (o' - o + j) = o' + j from by omega] at this
/-- The list with a row more, where it belongs. -/
def putIn (l : List Arc) (i : Nat) (x : Arc) : List Arc := l.take i ++ x :: l.drop i
theorem flat_putIn (l : List Arc) (i : Nat) (x : Arc) : flat (putIn l i x) = flat (l.take i) ++ (flat [x] ++ flat (l.drop i)) := by
  unfold putIn
  rw [flat_append]; rfl
theorem putIn_length {l : List Arc} {i : Nat} (x : Arc) (h : i ≤ l.length) : (putIn l i x).length = l.length + 1 := by
  unfold putIn
  rw [List.length_append, List.length_cons, List.length_take, List.length_drop]; omega
/-- In place: what lies there behind both copies. -/
theorem shift_range {w : World} {g c i : Nat} {l : List Arc} {x : Arc} (hi : i ≤ l.length) (hroom : l.length + 1 ≤ c) (hr : w.rangeAt g 0 (flat l)) (ht : w.there g 0 (c * 3)) :
    ((w.setCells g ((i + 1) * 3) (flat (l.drop i))).setCells g (i * 3) (flat [x])).rangeAt g 0 (flat (putIn l i x)) := by
  have e1 : (flat (l.take i)).length = i * 3 := by rw [flat_length, List.length_take]; omega
  have e2 : (flat (l.drop i)).length = (l.length - i) * 3 := by rw [flat_length, List.length_drop]
  have e3 : (flat [x]).length = 3 := rfl
  rw [flat_putIn]
  refine range_append ?_ (range_append ?_ ?_)
  · refine World.rangeAt_setCells_apart (World.rangeAt_setCells_apart ?_ _ _ _ (.inr (.inl (by omega)))) _ _ _ (.inr (.inl (by omega)))
    rw [← List.take_append_drop i l, flat_append] at hr
    exact range_left hr
  · rw [e1, Nat.zero_add]
    exact World.rangeAt_setCells_same _ _ _ _ (World.there_setCells (there_sub ht (by omega) (by omega)) _ _ _)
  · rw [e1, e3, Nat.zero_add, show i * 3 + 3 = (i + 1) * 3 from by omega]
    exact World.rangeAt_setCells_apart (World.rangeAt_setCells_same _ _ _ _ (there_sub ht (by omega) (by omega))) _ _ _ (.inr (.inr (by omega)))
set_option maxHeartbeats 4000000 in
set_option maxRecDepth 100000 in
theorem insert_shift (g c i vb vc kA kB : Nat) (l : List Arc) (x : Arc) (w : World) (hi : i < l.length) (hroom : l.length + 1 ≤ c) (hc63 : c ≤ 9223372036854775807) (hvb : vb ≠ g)
    (hr : w.rangeAt g 0 (flat l)) (ht : w.there g 0 (c * 3)) (hv : w.rangeAt vb 0 (flat [x])) (hsa : w.shape? vb = some (41, kA)) (hsb : w.shape? g = some (41, kB)) (hkB : kB ≠ 0)
    (hfa : w.frozen? ⟨vb, 0, none⟩ = false) (hfe : w.frozen? ⟨vb, kA, none⟩ = false) :
    Calls Try.prog 34 #[.slice (some ⟨g, 0, none⟩) l.length c, .int .i64 i, .slice (some ⟨vb, 0, none⟩) 1 vc] w fun e w' =>
      e = .returned (.slice (some ⟨g, 0, none⟩) (l.length + 1) c) ∧ w' = (w.drew.setCells g ((i + 1) * 3) (flat (l.drop i))).setCells g (i * 3) (flat [x]) := by
  have hsz : (Try.prog.info? 41).map (·.size) = some 3 := by kernel_rfl
  have hov : ∀ o lb cb, (callFunc 42 #[.slice (some ⟨vb, 0, none⟩) 1 vc, .slice (some ⟨g, o, none⟩) lb cb]).run Try.prog w = .ok (.value (.bool false)) w := fun o lb cb => by
    rw [run_callFunc_extern Try.func42 (by kernel_rfl) (by kernel_rfl) (by kernel_rfl) (e := Extern.SlicesOverlaps.overlaps #[22, 22] #[4]) (by kernel_rfl),
      Lib.run_overlaps_apart w 22 4 41 Try.underlying22 3 Try.sizeOf41 ⟨vb, 0, none⟩ ⟨g, o, none⟩ 1 vc lb cb hvb 41 41 kA kB hsa hsb hkB hfa hfe]
    rfl
  have hdl : (flat (l.drop i)).length = (l.length - i) * 3 := by rw [flat_length, List.length_drop]
  have hcp1 : ∀ ty dc sc, (Builtin.copy_ #[22, 22] ty #[.slice (some ⟨g, (i + 1) * 3, none⟩) (l.length - i) dc, .slice (some ⟨g, i * 3, none⟩) (l.length + 1 - i) sc]).run Try.prog w.drew = .ok (goInt (Nat.min (l.length + 1 - i) (l.length - i))) (w.drew.setCells g ((i + 1) * 3) (flat (l.drop i))) := fun ty dc sc =>
    run_copy_k w.drew 22 22 ty 41 3 g ((i + 1) * 3) (l.length - i) dc ⟨g, i * 3, none⟩ (l.length + 1 - i) sc (flat (l.drop i)) Try.underlying22 hsz (by rw [hdl]; simp only [Nat.min_def]; split <;> omega)
      (fun j v hj => by
        rw [Addr.add_mid]
        have h2 : w.rangeAt g (i * 3) (flat (l.drop i)) := by
          rw [← List.take_append_drop i l, flat_append] at hr
          have := range_right hr
          rwa [flat_length, List.length_take, show 0 + min i l.length * 3 = i * 3 from by omega] at this
        exact h2 j v hj)
      ((World.there_drew _ _ _ _).2 (there_sub ht (by omega) (by omega))) (flat_one _)
  obtain ⟨W1, hW1⟩ : ∃ W1, W1 = w.drew.setCells g ((i + 1) * 3) (flat (l.drop i)) := ⟨_, rfl⟩
  have ht1 : W1.there g (i * 3) 3 := by
    rw [hW1]
    exact World.there_setCells ((World.there_drew _ _ _ _).2 (there_sub ht (by omega) (by omega))) _ _ _
  have hv1 : W1.rangeAt vb 0 (flat [x]) := by
    rw [hW1]
    exact World.rangeAt_setCells_apart ((World.rangeAt_drew _ _ _ _).2 hv) _ _ _ (.inl hvb)
  have hcp2 : ∀ (W : World), (∀ x, W.cell? x = W1.cell? x) → (∀ x, W.frozen? x = W1.frozen? x) → ∀ ty dc, (Builtin.copy_ #[22, 22] ty #[.slice (some ⟨g, i * 3, none⟩) (l.length + 1 - i) dc, .slice (some ⟨vb, 0, none⟩) 1 vc]).run Try.prog W = .ok (goInt (Nat.min 1 (l.length + 1 - i))) (W.setCells g (i * 3) (flat [x])) := fun W hWc hWf ty dc =>
    run_copy_k W 22 22 ty 41 3 g (i * 3) (l.length + 1 - i) dc ⟨vb, 0, none⟩ 1 vc (flat [x]) Try.underlying22 hsz (by simp only [flat, List.length_cons, List.length_nil, Nat.min_def]; split <;> omega)
      (fun j v hj => by rw [Addr.add_mid, hWc]; exact hv1 j v hj)
      (fun j hj => by rw [hWc, hWf]; exact ht1 j hj) (flat_one _)
  rw [← hW1] at hcp1
  have hz2 : ¬ ((i : Int) = (l.length : Int)) := by omega
  have hw1 : IntKind.i64.wrap ((i : Int) + 1) = (i : Int) + 1 := by rw [IntKind.wrap_i64]; omega
  have hw2 : IntKind.i64.wrap ((l.length : Int) + 1) = (l.length : Int) + 1 := by rw [IntKind.wrap_i64]; omega
  have hb1 : (0 : Int) ≤ (i : Int) + 1 := by omega
  have hin : i ≤ l.length := by omega
  have htn : ((i : Int) + 1).toNat = i + 1 := by omega
  have htn2 : ((l.length : Int) + 1).toNat = l.length + 1 := by omega
  have hb2 : ¬ (c = i + 1) := by omega
  have hb3 : (i : Int) ≤ (l.length : Int) + 1 := by omega
  have hb4 : ¬ (c = i) := by omega
  have hb5 : ((l.length : Int) + 1) ≤ (c : Int) := by omega
  have hb6 : ¬ ((c : Int) < (l.length : Int) + 1) := by omega
  have HR := Lib.hid hr
  have HT := Lib.hid ht
  have HV := Lib.hid hv
  clear hr ht hv
  generalize l.length = n at *
  go_enter Try.func34, Try.ntmps34
  go_wp2_with (simp only [hov])
  go_region_law (refine step_copy_run rfl _ _ 22 22 rfl _ _ (by simp [Act.eval, Act.put]) (by simp [Act.eval, Act.put]) (hcp1 _ _ _) ?_)
  go_wp2_with (at_builtin; refine wpList_copy_run _ rfl _ _ 22 22 rfl _ _ rfl rfl (hcp2 _ (fun _ => rfl) (fun _ => rfl) _ _) ?_)
  go_ret
  first | exact ⟨rfl, rfl⟩ | exact ⟨rfl, by rw [hW1]⟩
end Go.Proofs.Ytmlcghbhkpbaeaa
