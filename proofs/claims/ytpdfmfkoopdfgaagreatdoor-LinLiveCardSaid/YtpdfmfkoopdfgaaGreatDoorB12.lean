/- GIns, GIns2. -/
import Derived.Test.YtpdfmfkoopdfgaaGreatDoorB08
import Derived.Lib.Overlaps
import Derived.Lib.AppendZerosOnto
import Derived.Lib.SliceRun
import Derived.Laws.Externs
import Derived.Deep.RegionLaw
set_option linter.unusedVariables false
set_option linter.unusedSimpArgs false
section
namespace Go.Proofs.YtpdfmfkoopdfgaaGreatDoor.Gr
set_option maxRecDepth 100000
open Go.RowKit Aid

theorem run_copy_k {P : Program} (w : World) (dT sT ty elem : TypeId) (size b o dLen dCap : Nat) (a : Addr) (sLen sCap : Nat) (cs : List Value)
    (hu : P.underlying dT = some (.slice elem)) (hs : (P.info? elem).map (·.size) = some size) (hn : cs.length = Nat.min sLen dLen * size)
    (hsrc : ∀ j v, cs[j]? = some v → w.cell? (a.add j) = some v) (ht : w.there b o cs.length) (h1 : ∀ v ∈ cs, v.oneCell' = true) :
    (Builtin.copy_ #[dT, sT] ty #[.slice (some ⟨b, o, none⟩) dLen dCap, .slice (some a) sLen sCap]).run P w = .ok (goInt (Nat.min sLen dLen)) (w.setCells b o cs) := by
  have hl := run_loadCells_list (P := P) w a cs hsrc
  have hst := run_storeCells_cells (P := P) b o cs 0 w (by simpa using fun j hj => (ht j hj).1) (by simpa using fun j hj => (ht j hj).2) h1
  cases hq : P.info? elem with
  | none => simp [hq] at hs
  | some i =>
    have hi : i.size = size := by simpa [hq] using hs
    simp [Builtin.copy_, run_underlying hu, Builtin.lenOf, Builtin.firstCells, sizeOf, typeInfo, hq, hi, ← hn, hl, hst]
theorem wp_copy_run {P : Program} (w : World) {o : Oper} {a : Act} {K : Act → World → Prop} {Q : Exit → Act → World → Prop} (d s : Operand) (t t' : TypeId)
    (ho : o.op = .call { callee := .builtin .copy, args := #[d, s], argTypes := #[t, t'] }) (v u : Value) (hd : a.eval d = v) (hs : a.eval s = u) {v' : Value} {w' : World}
    (hr : (Builtin.copy_ #[t, t'] o.type #[v, u]).run P w = .ok v' w') (h : K (a.put o.dst v') w') : o.wp P a w K Q := by
  unfold Oper.wp execOp
  simp only [ho, resolve, invoke, builtin, Sem.run_bind, Sem.run_pure, Result.andThen_ok, List.map_toArray, List.map_cons, List.map_nil, hd, hs, hr]
  exact h
theorem wpList_copy_run {P : Program} (w : World) {ops : Array Oper} {rest : List Oper} {o : Oper} {a : Act} {Q : Exit → Act → World → Prop} (hgd : o.guard = none) (d s : Operand) (t t' : TypeId)
    (ho : o.op = .call { callee := .builtin .copy, args := #[d, s], argTypes := #[t, t'] }) (v u : Value) (hd : a.eval d = v) (hs : a.eval s = u) {v' : Value} {w' : World}
    (hr : (Builtin.copy_ #[t, t'] o.type #[v, u]).run P w = .ok v' w') (h : wpList P ops Q rest (a.put o.dst v') w') : wpList P ops Q (o :: rest) a w :=
  wpList_plain hgd fun _ hK => wp_copy_run w d s t t' ho v u hd hs hr (hK _ _ h)
theorem step_copy_run {P : Program} {ops : Array Oper} {o : Oper} {a : Act} {w : World} {K : Act → World → Prop} {Q : Exit → Act → World → Prop} {E : Prop}
    (hg : o.guard = none) (d x : Operand) (dT sT : TypeId) (hop : o.op = Op.call { callee := Callee.builtin Builtin.copy, args := #[d, x], argTypes := #[dT, sT] })
    (v u : Value) (hd : a.eval d = v) (hx : a.eval x = u) {v' : Value} {w' : World} (hr : (Builtin.copy_ #[dT, sT] o.type #[v, u]).run P w = .ok v' w') (hK : K (a.put o.dst v') w') :
    if Region.wanted o (yielded ops a.tmps) = true then Oper.wp P o a w K Q else E := by
  have hw : Region.wanted o (yielded ops a.tmps) = true := by simp [Region.wanted, hg]
  rw [if_pos hw]
  exact wp_copy_run w d x dT sT hop v u hd hx hr hK
theorem range_append {w : World} {b o : Nat} {xs ys : List Value} (h1 : w.rangeAt b o xs) (h2 : w.rangeAt b (o + xs.length) ys) : w.rangeAt b o (xs ++ ys) := fun j v hj => by
  by_cases h : j < xs.length
  · rw [List.getElem?_append_left h] at hj
    exact h1 j v hj
  · rw [List.getElem?_append_right (by omega)] at hj
    have := h2 _ v hj
    rwa [show o + xs.length + (j - xs.length) = o + j from by omega] at this
theorem range_left {w : World} {b o : Nat} {xs ys : List Value} (h : w.rangeAt b o (xs ++ ys)) : w.rangeAt b o xs := fun j v hj => h j v (by rw [List.getElem?_append_left (List.getElem?_eq_some_iff.1 hj).1]; exact hj)
theorem range_right {w : World} {b o : Nat} {xs ys : List Value} (h : w.rangeAt b o (xs ++ ys)) : w.rangeAt b (o + xs.length) ys := fun j v hj => by
  have := h (xs.length + j) v (by rw [List.getElem?_append_right (by omega), Nat.add_sub_cancel_left]; exact hj)
  rwa [← Nat.add_assoc] at this
theorem there_sub {w : World} {b o n o' n' : Nat} (h : w.there b o n) (h1 : o ≤ o') (h2 : o' + n' ≤ o + n) : w.there b o' n' := fun j hj => by
  have := h (o' - o + j) (by omega)
  rwa [show o + (o' - o + j) = o' + j from by omega] at this
/-- The list with a row more, where it belongs. -/
def putIn (l : List Arc) (i : Nat) (x : Arc) : List Arc := l.take i ++ x :: l.drop i
theorem flat_putIn (l : List Arc) (i : Nat) (x : Arc) : flat (putIn l i x) = flat (l.take i) ++ (flat [x] ++ flat (l.drop i)) := by
  unfold putIn
  rw [flat_append]; rfl
theorem putIn_length {l : List Arc} {i : Nat} (x : Arc) (h : i ≤ l.length) : (putIn l i x).length = l.length + 1 := by
  unfold putIn
  rw [List.length_append, List.length_cons, List.length_take, List.length_drop]; omega
/-- In place: what lies there behind both copies. -/
theorem shift_range {w : World} {g c i : Nat} {l : List Arc} {x : Arc} (hi : i ≤ l.length) (hroom : l.length + 1 ≤ c) (hr : w.rangeAt g 0 (flat l)) (ht : w.there g 0 (c * 3)) :
    ((w.setCells g ((i + 1) * 3) (flat (l.drop i))).setCells g (i * 3) (flat [x])).rangeAt g 0 (flat (putIn l i x)) := by
  have e1 : (flat (l.take i)).length = i * 3 := by rw [flat_length, List.length_take]; omega
  have e2 : (flat (l.drop i)).length = (l.length - i) * 3 := by rw [flat_length, List.length_drop]
  have e3 : (flat [x]).length = 3 := rfl
  rw [flat_putIn]
  refine range_append ?_ (range_append ?_ ?_)
  · refine World.rangeAt_setCells_apart (World.rangeAt_setCells_apart ?_ _ _ _ (.inr (.inl (by omega)))) _ _ _ (.inr (.inl (by omega)))
    rw [← List.take_append_drop i l, flat_append] at hr
    exact range_left hr
  · rw [e1, Nat.zero_add]
    exact World.rangeAt_setCells_same _ _ _ _ (World.there_setCells (there_sub ht (by omega) (by omega)) _ _ _)
  · rw [e1, e3, Nat.zero_add, show i * 3 + 3 = (i + 1) * 3 from by omega]
    exact World.rangeAt_setCells_apart (World.rangeAt_setCells_same _ _ _ _ (there_sub ht (by omega) (by omega))) _ _ _ (.inr (.inr (by omega)))
set_option maxHeartbeats 4000000 in
set_option maxRecDepth 100000 in
theorem insert_shift (g c i vb vc kA kB : Nat) (l : List Arc) (x : Arc) (w : World) (hi : i < l.length) (hroom : l.length + 1 ≤ c) (hc63 : c ≤ 9223372036854775807) (hvb : vb ≠ g)
    (hr : w.rangeAt g 0 (flat l)) (ht : w.there g 0 (c * 3)) (hv : w.rangeAt vb 0 (flat [x])) (hsa : w.shape? vb = some (60, kA)) (hsb : w.shape? g = some (60, kB)) (hkB : kB ≠ 0)
    (hfa : w.frozen? ⟨vb, 0, none⟩ = false) (hfe : w.frozen? ⟨vb, kA, none⟩ = false) :
    Calls Tryz.prog 139 #[.slice (some ⟨g, 0, none⟩) l.length c, .int .i64 i, .slice (some ⟨vb, 0, none⟩) 1 vc] w fun e w' =>
      e = .returned (.slice (some ⟨g, 0, none⟩) (l.length + 1) c) ∧ w' = (w.drew.setCells g ((i + 1) * 3) (flat (l.drop i))).setCells g (i * 3) (flat [x]) := by
  have hsz : (Tryz.prog.info? 60).map (·.size) = some 3 := by kernel_rfl
  have hov : ∀ o lb cb, (callFunc 153 #[.slice (some ⟨vb, 0, none⟩) 1 vc, .slice (some ⟨g, o, none⟩) lb cb]).run Tryz.prog w = .ok (.value (.bool false)) w := fun o lb cb => by
    rw [run_callFunc_extern Tryz.func153 (by kernel_rfl) (by kernel_rfl) (by kernel_rfl) (e := Extern.SlicesOverlaps.overlaps #[22, 22] #[4]) (by kernel_rfl),
      Lib.run_overlaps_apart w 22 4 60 Tryz.underlying22 3 Tryz.sizeOf60 ⟨vb, 0, none⟩ ⟨g, o, none⟩ 1 vc lb cb hvb 60 60 kA kB hsa hsb hkB hfa hfe]
    rfl
  have hdl : (flat (l.drop i)).length = (l.length - i) * 3 := by rw [flat_length, List.length_drop]
  have hcp1 : ∀ ty dc sc, (Builtin.copy_ #[22, 22] ty #[.slice (some ⟨g, (i + 1) * 3, none⟩) (l.length - i) dc, .slice (some ⟨g, i * 3, none⟩) (l.length + 1 - i) sc]).run Tryz.prog w.drew = .ok (goInt (Nat.min (l.length + 1 - i) (l.length - i))) (w.drew.setCells g ((i + 1) * 3) (flat (l.drop i))) := fun ty dc sc =>
    run_copy_k w.drew 22 22 ty 60 3 g ((i + 1) * 3) (l.length - i) dc ⟨g, i * 3, none⟩ (l.length + 1 - i) sc (flat (l.drop i)) Tryz.underlying22 hsz (by rw [hdl]; simp only [Nat.min_def]; split <;> omega)
      (fun j v hj => by
        rw [Addr.add_mid]
        have h2 : w.rangeAt g (i * 3) (flat (l.drop i)) := by
          rw [← List.take_append_drop i l, flat_append] at hr
          have := range_right hr
          rwa [flat_length, List.length_take, show 0 + min i l.length * 3 = i * 3 from by omega] at this
        exact h2 j v hj)
      ((World.there_drew _ _ _ _).2 (there_sub ht (by omega) (by omega))) (flat_one _)
  obtain ⟨W1, hW1⟩ : ∃ W1, W1 = w.drew.setCells g ((i + 1) * 3) (flat (l.drop i)) := ⟨_, rfl⟩
  have ht1 : W1.there g (i * 3) 3 := by
    rw [hW1]
    exact World.there_setCells ((World.there_drew _ _ _ _).2 (there_sub ht (by omega) (by omega))) _ _ _
  have hv1 : W1.rangeAt vb 0 (flat [x]) := by
    rw [hW1]
    exact World.rangeAt_setCells_apart ((World.rangeAt_drew _ _ _ _).2 hv) _ _ _ (.inl hvb)
  have hcp2 : ∀ (W : World), (∀ x, W.cell? x = W1.cell? x) → (∀ x, W.frozen? x = W1.frozen? x) → ∀ ty dc, (Builtin.copy_ #[22, 22] ty #[.slice (some ⟨g, i * 3, none⟩) (l.length + 1 - i) dc, .slice (some ⟨vb, 0, none⟩) 1 vc]).run Tryz.prog W = .ok (goInt (Nat.min 1 (l.length + 1 - i))) (W.setCells g (i * 3) (flat [x])) := fun W hWc hWf ty dc =>
    run_copy_k W 22 22 ty 60 3 g (i * 3) (l.length + 1 - i) dc ⟨vb, 0, none⟩ 1 vc (flat [x]) Tryz.underlying22 hsz (by simp only [flat, List.length_cons, List.length_nil, Nat.min_def]; split <;> omega)
      (fun j v hj => by rw [Addr.add_mid, hWc]; exact hv1 j v hj)
      (fun j hj => by rw [hWc, hWf]; exact ht1 j hj) (flat_one _)
  rw [← hW1] at hcp1
  have hz2 : ¬ ((i : Int) = (l.length : Int)) := by omega
  have hw1 : IntKind.i64.wrap ((i : Int) + 1) = (i : Int) + 1 := by rw [IntKind.wrap_i64]; omega
  have hw2 : IntKind.i64.wrap ((l.length : Int) + 1) = (l.length : Int) + 1 := by rw [IntKind.wrap_i64]; omega
  have hb1 : (0 : Int) ≤ (i : Int) + 1 := by omega
  have hin : i ≤ l.length := by omega
  have htn : ((i : Int) + 1).toNat = i + 1 := by omega
  have htn2 : ((l.length : Int) + 1).toNat = l.length + 1 := by omega
  have hb2 : ¬ (c = i + 1) := by omega
  have hb3 : (i : Int) ≤ (l.length : Int) + 1 := by omega
  have hb4 : ¬ (c = i) := by omega
  have hb5 : ((l.length : Int) + 1) ≤ (c : Int) := by omega
  have hb6 : ¬ ((c : Int) < (l.length : Int) + 1) := by omega
  have HR := Lib.hid hr
  have HT := Lib.hid ht
  have HV := Lib.hid hv
  clear hr ht hv
  generalize l.length = n at *
  go_enter Tryz.func139, Tryz.ntmps139
  go_wp2_with (simp only [hov])
  go_region_law (refine step_copy_run rfl _ _ 22 22 rfl _ _ (by simp [Act.eval, Act.put]) (by simp [Act.eval, Act.put]) (hcp1 _ _ _) ?_)
  go_wp2_with (at_builtin; refine wpList_copy_run _ rfl _ _ 22 22 rfl _ _ rfl rfl (hcp2 _ (fun _ => rfl) (fun _ => rfl) _ _) ?_)
  go_ret
  first | exact ⟨rfl, rfl⟩ | exact ⟨rfl, by rw [hW1]⟩
end Go.Proofs.YtpdfmfkoopdfgaaGreatDoor.Gr
end
section
namespace Go.Proofs.YtpdfmfkoopdfgaaGreatDoor.Gr
set_option maxRecDepth 100000
open Go.RowKit Aid

set_option maxHeartbeats 2000000 in
theorem insert_end (base : Nat) (A : Option Addr) (c n vb vc : Nat) (xs : List Value) (x : Arc) (w : World) (hn : n ≤ 1000) (ho : w.ownsRow base 60 3 (.slice A n c) n xs) (hb : base ≤ w.heap.size) (hv : w.rangeAt vb 0 (flat [x])) :
    Calls Tryz.prog 139 #[.slice A n c, .int .i64 n, .slice (some ⟨vb, 0, none⟩) 1 vc] w fun e w' => ∃ B d, e = .returned (.slice B (n + 1) d) ∧ w'.ownsRow base 60 3 (.slice B (n + 1) d) (n + 1) (xs ++ flat [x]) ∧ Below base w w' := by
  have HO := Lib.hid ho
  have HB := Lib.hid hb
  have HS := Lib.hid (show Sl w (some ⟨vb, 0, none⟩) (flat [x]) from fun _ => ⟨vb, 0, rfl, hv⟩)
  have HF := Lib.hid (flat_one [x])
  have HL := Lib.hid (show (flat [x]).length = 1 * 3 from rfl)
  obtain ⟨i0, hi0, hz0, hz1, hz2⟩ := info_parts arc_info
  have m1 : Hid (n + 1 ≤ maxLen) := Lib.hid (by unfold maxLen; omega)
  have k1 : Hid ((n + 1) * 24 ≤ 140737488355328) := Lib.hid (by omega)
  have hnc : n ≤ c := by
    rcases own_any3 ho with ⟨hv, hn⟩ | ⟨g, c', hv⟩
    · omega
    · cases hv
      exact (own_range ho).2.1
  have hnn : A = none → n = 0 := fun h => by
    subst h
    rcases own_any3 ho with ⟨hv, hn⟩ | ⟨g, c', hv⟩
    · exact hn
    · cases hv
  clear ho hb hv
  cases A with
  | none =>
    have h0 := hnn rfl
    subst h0
    go_enter Tryz.func139, Tryz.ntmps139
    go_wp2_with (
      at_builtin
      refine wpList_append_sl _ rfl (.tmp 23) (.tmp 24) 22 rfl base 60 i0 _ 3 24 Tryz.underlying22 hi0 hz0 hz1 hz2 rfl (by omega) _ 0 _ rfl HO.out _ 1 vc (flat [x]) rfl HL.out HS.out HF.out m1.out k1.out HB.out (0 + 1) rfl ?_
      intro A5 c5 w5 hown5 hb5 _ _
      have HO5 := Lib.hid hown5
      have HB5 := Lib.hid hb5
      clear hown5 hb5)
    go_ret
    exact ⟨_, _, rfl, HO5.out, HB5.out⟩
  | some a =>
    obtain ⟨ab, ao, asp⟩ := a
    go_enter Tryz.func139, Tryz.ntmps139
    go_wp2_with (
      at_builtin
      refine wpList_append_sl _ rfl (.tmp 23) (.tmp 24) 22 rfl base 60 i0 _ 3 24 Tryz.underlying22 hi0 hz0 hz1 hz2 rfl (by omega) _ n _ rfl HO.out _ 1 vc (flat [x]) rfl HL.out HS.out HF.out m1.out k1.out HB.out (n + 1) rfl ?_
      intro A5 c5 w5 hown5 hb5 _ _
      have HO5 := Lib.hid hown5
      have HB5 := Lib.hid hb5
      clear hown5 hb5)
    all_goals (go_ret; exact ⟨_, _, rfl, HO5.out, HB5.out⟩)
theorem zeros_size (k : Nat) : (Builtin.zeroCells (Value.agg #[.int .i64 0, .int .i64 0, .int .u64 0]).cells k).size = k * 3 := by
  simp [Builtin.zeroCells, Value.cells]
set_option maxHeartbeats 4000000 in
set_option maxRecDepth 100000 in
theorem insert_grow (g c i vb vc : Nat) (l : List Arc) (x : Arc) (w : World) (hi : i < l.length) (h40 : l.length ≤ 1000) (hroom : c < l.length + 1) (hnc : l.length ≤ c) (hr : w.rangeAt g 0 (flat l)) (hv : w.rangeAt vb 0 (flat [x])) :
    Calls Tryz.prog 139 #[.slice (some ⟨g, 0, none⟩) l.length c, .int .i64 i, .slice (some ⟨vb, 0, none⟩) 1 vc] w fun e w' =>
      ∃ B d, e = .returned (.slice (some ⟨B, 0, none⟩) (l.length + 1) d) ∧ w'.rangeAt B 0 (flat (putIn l i x)) ∧ Below w.heap.size w w' := by
  obtain ⟨i0, hi0, hz0, hzs, hzb⟩ := info_parts arc_info
  have hsz : (Tryz.prog.info? 60).map (·.size) = some 3 := by kernel_rfl
  obtain ⟨n, hn⟩ : ∃ n, n = l.length := ⟨_, rfl⟩
  rw [← hn] at hi h40 hroom hnc ⊢
  have hf0 := flat_length l
  have hft : (flat (l.take i)).length = i * 3 := by rw [flat_length, List.length_take]; omega
  have hfd : (flat (l.drop i)).length = (n - i) * 3 := by rw [flat_length, List.length_drop, hn]
  have hsplit : flat l = flat (l.take i) ++ flat (l.drop i) := by rw [← flat_append, List.take_append_drop]
  rw [hsplit] at hr
  have hrT := range_left hr
  have hrD := range_right hr
  rw [hft, Nat.zero_add] at hrD
  have hbw : g < w.heap.size := by
    have : 0 < (flat (l.drop i)).length := by omega
    exact World.block_lt_of_cell? w ⟨g, i * 3 + 0, none⟩ (hrD 0 _ (List.getElem?_eq_getElem this))
  have hvw : vb < w.heap.size := World.block_lt_of_cell? w ⟨vb, 0 + 0, none⟩ (hv 0 (.int .i64 x.u) rfl)
  have hkk : (n : Int) + 1 - (i : Int) = ((n + 1 - i : Nat) : Int) := by omega
  have hik : i + (n + 1 - i) = n + 1 := by omega
  have hold : (Builtin.firstCells i0.size i (.slice (some ⟨g, 0, none⟩) i c)).run Tryz.prog w.drew = .ok (flat (l.take i)).toArray w.drew := by
    rw [hzs]
    exact run_firstCells_some w.drew 3 i ⟨g, 0, none⟩ i c (flat (l.take i)) (by rw [hft]) (fun j v hj => by
      rw [Addr.add_mid]
      exact hrT j v hj)
  have hrz : ∀ ty, (Builtin.append_ #[22, 3] ty #[.slice (some ⟨g, 0, none⟩) i c, .int .i64 ((n : Int) + 1 - (i : Int))]).run Tryz.prog w =
      .ok (.slice (some ⟨w.heap.size, 0, none⟩) (n + 1) (grownCap w (n + 1) c 60)) (w.drew.alloc (.cells ((flat (l.take i)).toArray ++ Builtin.zeroCells (Value.agg #[.int .i64 0, .int .i64 0, .int .u64 0]).cells (n + 1 - i) ++ Builtin.zeroCells (Value.agg #[.int .i64 0, .int .i64 0, .int .u64 0]).cells (grownCap w (n + 1) c 60 - (n + 1))) 60)) := fun ty => by
    have h := Lib.run_append_grow_zeros w 22 3 ty 60 i0 _ .i64 .i64 Tryz.underlying22 Tryz.underlying3 hi0 hz0 (some ⟨g, 0, none⟩) i c (flat (l.take i)) hold (n + 1 - i) (by omega) (by omega) (by omega) (by omega) (by rw [hzb]; omega) (by rw [hzb, hik]; exact growslice_fits hroom (by omega))
    rw [hik] at h
    rw [hkk]
    exact h
  obtain ⟨G, hG⟩ : ∃ G, G = grownCap w (n + 1) c 60 := ⟨_, rfl⟩
  obtain ⟨ROW, hROW⟩ : ∃ ROW : Array Value, ROW = (flat (l.take i)).toArray ++ Builtin.zeroCells (Value.agg #[.int .i64 0, .int .i64 0, .int .u64 0]).cells (n + 1 - i) ++ Builtin.zeroCells (Value.agg #[.int .i64 0, .int .i64 0, .int .u64 0]).cells (G - (n + 1)) := ⟨_, rfl⟩
  rw [← hG] at hrz
  rw [← hROW] at hrz
  have hRl : (n + 1) * 3 ≤ ROW.size := by
    rw [hROW, Array.size_append, Array.size_append, zeros_size, zeros_size, List.size_toArray, hft]
    omega
  have hRt : ∀ j v, (flat (l.take i))[j]? = some v → ROW[j]? = some v := fun j v hj => by
    have hlt := (List.getElem?_eq_some_iff.1 hj).1
    rw [hROW, Array.append_assoc, Array.getElem?_append_left (by simpa using hlt)]
    simpa using hj
  obtain ⟨W1, hW1⟩ : ∃ W1, W1 = w.drew.alloc (.cells ROW 60) := ⟨_, rfl⟩
  rw [← hW1] at hrz
  have hNt : W1.there w.heap.size 0 ((n + 1) * 3) := fun j hj => by
    rw [Nat.zero_add, hW1, World.cell?_alloc_at (w := w.drew) ROW _ w.heap.size j rfl, Array.getElem?_eq_getElem (by omega)]
    exact ⟨rfl, World.frozen?_alloc_at (w := w.drew) ROW _ w.heap.size j rfl⟩
  have hNr : W1.rangeAt w.heap.size 0 (flat (l.take i)) := fun j v hj => by
    rw [Nat.zero_add, hW1, World.cell?_alloc_at (w := w.drew) ROW _ w.heap.size j rfl]
    exact hRt j v hj
  have hOb : W1.rangeAt g (i * 3) (flat (l.drop i)) := by
    rw [hW1]
    exact World.rangeAt_alloc ((World.rangeAt_drew _ _ _ _).2 hrD) _
  have hOv : W1.rangeAt vb 0 (flat [x]) := by
    rw [hW1]
    exact World.rangeAt_alloc ((World.rangeAt_drew _ _ _ _).2 hv) _
  have hbN : g ≠ w.heap.size := by omega
  have hcpA : ∀ (W : World), (∀ x, W.cell? x = W1.cell? x) → (∀ x, W.frozen? x = W1.frozen? x) → ∀ ty dc, (Builtin.copy_ #[22, 22] ty #[.slice (some ⟨w.heap.size, i * 3, none⟩) (n + 1 - i) dc, .slice (some ⟨vb, 0, none⟩) 1 vc]).run Tryz.prog W = .ok (goInt (Nat.min 1 (n + 1 - i))) (W.setCells w.heap.size (i * 3) (flat [x])) := fun W hWc hWf ty dc =>
    run_copy_k W 22 22 ty 60 3 w.heap.size (i * 3) (n + 1 - i) dc ⟨vb, 0, none⟩ 1 vc (flat [x]) Tryz.underlying22 hsz (by simp only [flat, List.length_cons, List.length_nil, Nat.min_def]; split <;> omega)
      (fun j v hj => by rw [Addr.add_mid, hWc]; exact hOv j v hj)
      (fun j hj => by
        have : (flat [x]).length = 3 := rfl
        rw [hWc, hWf]
        exact there_sub hNt (by omega) (by omega) j hj) (flat_one _)
  have hcpB : ∀ (W : World), (∀ y, W.cell? y = (W1.setCells w.heap.size (i * 3) (flat [x])).cell? y) → (∀ y, W.frozen? y = (W1.setCells w.heap.size (i * 3) (flat [x])).frozen? y) → ∀ ty dc sc, (Builtin.copy_ #[22, 22] ty #[.slice (some ⟨w.heap.size, (i + 1) * 3, none⟩) (n - i) dc, .slice (some ⟨g, i * 3, none⟩) (n - i) sc]).run Tryz.prog W = .ok (goInt (Nat.min (n - i) (n - i))) (W.setCells w.heap.size ((i + 1) * 3) (flat (l.drop i))) := fun W hWc hWf ty dc sc =>
    run_copy_k W 22 22 ty 60 3 w.heap.size ((i + 1) * 3) (n - i) dc ⟨g, i * 3, none⟩ (n - i) sc (flat (l.drop i)) Tryz.underlying22 hsz (by rw [hfd]; simp only [Nat.min_def]; split <;> omega)
      (fun j v hj => by
        rw [Addr.add_mid, hWc]
        exact World.rangeAt_setCells_apart hOb _ _ _ (.inl hbN) j v hj)
      (fun j hj => by
        rw [hWc, hWf]
        exact World.there_setCells (there_sub hNt (by omega) (by omega)) _ _ _ j hj) (flat_one _)
  have hpost : ∀ (W : World), (∀ y, W.cell? y = (W1.setCells w.heap.size (i * 3) (flat [x])).cell? y) → (∀ y, W.frozen? y = (W1.setCells w.heap.size (i * 3) (flat [x])).frozen? y) → (W.setCells w.heap.size ((i + 1) * 3) (flat (l.drop i))).rangeAt w.heap.size 0 (flat (putIn l i x)) := fun W hWc hWf => by
    have e3 : (flat [x]).length = 3 := rfl
    have q1 : W.rangeAt w.heap.size 0 (flat (l.take i)) := fun j v hj => by
      rw [hWc]
      exact World.rangeAt_setCells_apart hNr _ _ _ (.inr (.inl (by omega))) j v hj
    have q2 : W.rangeAt w.heap.size (i * 3) (flat [x]) := fun j v hj => by
      rw [hWc]
      exact World.rangeAt_setCells_same _ _ _ _ (there_sub hNt (by omega) (by omega)) j v hj
    have q3 : W.there w.heap.size ((i + 1) * 3) (flat (l.drop i)).length := fun j hj => by
      rw [hWc, hWf]
      exact World.there_setCells (there_sub hNt (by omega) (by omega)) _ _ _ j hj
    rw [flat_putIn]
    refine range_append ?_ (range_append ?_ ?_)
    · exact World.rangeAt_setCells_apart q1 _ _ _ (.inr (.inl (by omega)))
    · rw [hft, Nat.zero_add]
      exact World.rangeAt_setCells_apart q2 _ _ _ (.inr (.inl (by omega)))
    · rw [hft, e3, Nat.zero_add, show i * 3 + 3 = (i + 1) * 3 from by omega]
      exact World.rangeAt_setCells_same _ _ _ _ q3
  have hbelow : Below w.heap.size w (((w.alloc (.cells ROW 60)).drew.setCells w.heap.size (i * 3) (flat [x])).drew.setCells w.heap.size ((i + 1) * 3) (flat (l.drop i))) :=
    below_set _ (Nat.le_refl _) _ _ (below_set _ (Nat.le_refl _) _ _ ((Below.refl w.heap.size w).alloc (Nat.le_refl _) _).drew).drew
  have hGn : n + 1 ≤ G := by rw [hG]; exact grownCap_ge w _ _ _
  have hG63 : G ≤ 9223372036854775807 := by
    have := grownCap_le_maxLen w (n + 1) c 60 (by unfold maxLen; omega)
    rw [← hG] at this
    unfold maxLen at this
    omega
  have HP := Lib.hid hpost
  have HBl := Lib.hid hbelow
  have HE := Lib.hid hW1
  have hGi : ¬ (G = i) := by omega
  have hGim : ¬ (G = i + 1) := by omega
  have hci : ¬ (c = i) := by omega
  have hz2 : ¬ ((i : Int) = (n : Int)) := by omega
  have hz3 : (c : Int) < (n : Int) + 1 := by omega
  have hw1 : IntKind.i64.wrap ((i : Int) + 1) = (i : Int) + 1 := by rw [IntKind.wrap_i64]; omega
  have hw2 : IntKind.i64.wrap ((n : Int) + 1) = (n : Int) + 1 := by rw [IntKind.wrap_i64]; omega
  have hw3 : IntKind.i64.wrap ((n : Int) + 1 - (i : Int)) = (n : Int) + 1 - (i : Int) := by rw [IntKind.wrap_i64]; omega
  have hb1 : (0 : Int) ≤ (i : Int) + 1 := by omega
  have hin : i ≤ n := by omega
  have hic : i ≤ c := by omega
  have htn : ((i : Int) + 1).toNat = i + 1 := by omega
  have hb3 : (i : Int) ≤ (n : Int) := by omega
  subst hW1
  have hE1 : ∀ x, ((w.alloc (.cells ROW 60)).drew).cell? x = (w.drew.alloc (.cells ROW 60)).cell? x := fun x => rfl
  have hE2 : ∀ x, ((w.alloc (.cells ROW 60)).drew).frozen? x = (w.drew.alloc (.cells ROW 60)).frozen? x := fun x => rfl
  have hF1 : ∀ (X : Arc) x, (((w.alloc (.cells ROW 60)).drew.setCells w.heap.size (i * 3) (flat [X])).drew).cell? x = ((w.drew.alloc (.cells ROW 60)).setCells w.heap.size (i * 3) (flat [X])).cell? x := fun _ x => rfl
  have hF2 : ∀ (X : Arc) x, (((w.alloc (.cells ROW 60)).drew.setCells w.heap.size (i * 3) (flat [X])).drew).frozen? x = ((w.drew.alloc (.cells ROW 60)).setCells w.heap.size (i * 3) (flat [X])).frozen? x := fun _ x => rfl
  clear hr hv hn hf0 hft hfd hsplit hrT hrD hkk hik hold hROW hG hRl hRt hNt hNr hOb hOv hpost hbelow HE
  go_enter Tryz.func139, Tryz.ntmps139
  go_wp2_with (first
    | (at_builtin; refine Lib.wpList_append_run _ rfl _ _ _ _ rfl _ _ rfl rfl _ _ (hrz _) ?_)
    | (at_builtin; refine wpList_copy_run _ rfl _ _ 22 22 rfl _ _ rfl rfl (hcpA _ hE1 hE2 _ _) ?_)
    | (at_builtin; refine wpList_copy_run _ rfl _ _ 22 22 rfl _ _ rfl rfl (hcpB _ (fun _ => rfl) (fun _ => rfl) _ _ _) ?_))
  go_region_law (refine step_copy_run rfl _ _ 22 22 rfl (.slice (some ⟨w.heap.size, (i + 1) * 3, none⟩) (n - i) (G - (i + 1))) (.slice (some ⟨g, i * 3, none⟩) (n - i) (c - i)) (by simp [Act.eval, Act.put]) (by simp [Act.eval, Act.put]) (hcpB _ (hF1 x) (hF2 x) 3 (G - (i + 1)) (c - i)) ?_)
  go_wp2
  go_ret
  exact ⟨_, _, rfl, HP.out _ (hF1 x) (hF2 x), HBl.out⟩
end Go.Proofs.YtpdfmfkoopdfgaaGreatDoor.Gr
end
