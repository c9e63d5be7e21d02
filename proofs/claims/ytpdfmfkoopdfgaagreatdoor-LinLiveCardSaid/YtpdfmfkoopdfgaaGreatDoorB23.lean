/- LHeap0, PEra, PCode, LHeap1. -/
import Derived.Test.YtpdfmfkoopdfgaaGreatDoorB21
import Derived.Test.YtpdfmfkoopdfgaaGreatDoorB22
import Derived.WalkSmall
import Derived.Deep.RegionHeld3
import Derived.Deep.RegionWith
set_option linter.unusedVariables false
set_option linter.unusedSimpArgs false
section
namespace Go.Proofs.YtpdfmfkoopdfgaaGreatDoor
set_option maxRecDepth 100000
open Go.RowKit Aid Gr Hs LinP HeapP

/-- A moment. -/
structure Mo where
  t : Int
  ends : Bool
  i : Nat
def Mo.d : Mo := ⟨0, false, 0⟩
def Mo.key (m : Mo) : Int := 2 * m.t + if m.ends then 1 else 0
def Mo.cells (m : Mo) : List Value := [.int .i64 m.t, .bool m.ends, .int .i64 m.i]
def mflat (l : List Mo) : List Value := l.flatMap Mo.cells
theorem mflat_append (l k : List Mo) : mflat (l ++ k) = mflat l ++ mflat k := List.flatMap_append ..
theorem mflat_get : ∀ (l : List Mo) (j : Nat) (m : Mo), l[j]? = some m → (mflat l)[j * 3]? = some (.int .i64 m.t) ∧ (mflat l)[j * 3 + 1]? = some (.bool m.ends) ∧ (mflat l)[j * 3 + 2]? = some (.int .i64 m.i)
  | [], j, m, h => by simp at h
  | x :: l, 0, m, h => by
    rw [List.getElem?_cons_zero] at h; injection h with h; subst h
    unfold mflat; rw [List.flatMap_cons]; unfold Mo.cells; simp
  | x :: l, j + 1, m, h => by
    rw [List.getElem?_cons_succ] at h
    have := mflat_get l j m h
    unfold mflat at this ⊢
    rw [List.flatMap_cons]
    have e : (Mo.cells x).length = 3 := rfl
    refine ⟨?_, ?_, ?_⟩
    · rw [List.getElem?_append_right (by rw [e]; omega), e, show (j + 1) * 3 - 3 = j * 3 by omega]; exact this.1
    · rw [List.getElem?_append_right (by rw [e]; omega), e, show (j + 1) * 3 + 1 - 3 = j * 3 + 1 by omega]; exact this.2.1
    · rw [List.getElem?_append_right (by rw [e]; omega), e, show (j + 1) * 3 + 2 - 3 = j * 3 + 2 by omega]; exact this.2.2
/-- The same memory. -/
structure Still (w w' : World) : Prop where
  os : w'.os = w.os
  tape : w'.tape = w.tape
  output : w'.output = w.output
  heap : w'.heap = w.heap
theorem Still.refl (w : World) : Still w w := ⟨rfl, rfl, rfl, rfl⟩
theorem Still.drew {w w' : World} (h : Still w w') : Still w w'.drew := ⟨h.os, h.tape, h.output, h.heap⟩
theorem Still.trans {a b c : World} (h : Still a b) (k : Still b c) : Still a c := ⟨k.os.trans h.os, k.tape.trans h.tape, k.output.trans h.output, k.heap.trans h.heap⟩
theorem Still.below {w w' : World} (h : Still w w') (B : Nat) : Below B w w' := ⟨h.os, h.tape, h.output, by rw [h.heap]; exact Nat.le_refl _, fun k _ => by rw [h.heap]⟩
theorem Still.cell {w w' : World} (h : Still w w') (p : Addr) : w'.cell? p = w.cell? p := World.cell?_of_block (w := w) (by rw [h.heap])
theorem Still.own {w w' : World} (h : Still w w') {base : Nat} {e : TypeId} {size : Nat} {v : Value} {n : Nat} {xs : List Value} (k : w.ownsRow base e size v n xs) : w'.ownsRow base e size v n xs :=
  k.kept (w' := w') (row := none) ⟨h.os, h.tape, h.output, by rw [h.heap]; exact Nat.le_refl _, fun k _ _ => by rw [h.heap]⟩ (by
    cases hq : v.ownBlock
    · exact .inl rfl
    · exact .inr (by simp))
/-- A row of moments, the call's own. -/
abbrev Mos (w : World) (base : Nat) (v : Value) (l : List Mo) : Prop := w.ownsRow base 103 3 v l.length (mflat l)
theorem Mos.cells {w : World} {base : Nat} {v : Value} {l : List Mo} (h : Mos w base v l) {j : Nat} (hj : j < l.length) : ∃ g c, v = .slice (some ⟨g, 0, none⟩) l.length c ∧
    w.cell? ⟨g, j * 3, none⟩ = some (.int .i64 (el Mo.d l j).t) ∧ w.cell? ⟨g, j * 3 + 1, none⟩ = some (.bool (el Mo.d l j).ends) ∧ w.cell? ⟨g, j * 3 + 2, none⟩ = some (.int .i64 (el Mo.d l j).i) := by
  obtain ⟨g, c, hv⟩ : ∃ g c, v = .slice (some ⟨g, 0, none⟩) l.length c := by
    rcases h.2 with ⟨_, h0⟩ | ⟨g, cap, cur, hv, _⟩
    · omega
    · exact ⟨g, cap, hv⟩
  obtain ⟨h1, h2, h3⟩ := mflat_get l j _ (el_some Mo.d hj)
  have hc := World.ownsRow.cells h (g := g) (by rw [hv]; rfl)
  refine ⟨g, c, hv, ?_, ?_, ?_⟩
  · have := hc _ _ h1; rw [addr_add] at this; simpa using this
  · have := hc _ _ h2; rw [addr_add] at this; simpa using this
  · have := hc _ _ h3; rw [addr_add] at this; simpa using this
theorem Len_any (A : Option Addr) (n c : Nat) (w : World) : Calls Tryz.prog 61 #[.slice A n c] w fun e w' => e = .returned (.int .i64 n) ∧ w = w' := by
  go_enter Tryz.func61, Tryz.ntmps61
  go_wp2
  go_ret
  exact ⟨rfl, rfl⟩
def mless (a b : Mo) : Bool := decide (a.key < b.key)
theorem mless_t {a b : Mo} (h : a.t ≠ b.t) : mless a b = decide (a.t < b.t) := by
  unfold mless Mo.key
  apply decide_eq_decide.2
  cases a.ends <;> cases b.ends <;> simp <;> omega
theorem mless_e {a b : Mo} (h : a.t = b.t) : mless a b = (!a.ends && b.ends) := by
  unfold mless Mo.key
  cases a.ends <;> cases b.ends <;> simp [h] <;> omega
set_option maxHeartbeats 4000000 in
theorem Less_any (l : List Mo) (base : Nat) (v : Value) (i j : Nat) (w : World) (hm : Mos w base v l) (hi : i < l.length) (hj : j < l.length) :
    Calls Tryz.prog 181 #[v, .int .i64 i, .int .i64 j] w fun e w' => e = .returned (.bool (mless (el Mo.d l i) (el Mo.d l j))) ∧ Still w w' := by
  obtain ⟨g, c, rfl, a0, a1, a2⟩ := hm.cells hi
  obtain ⟨g', c', hv, b0, b1, b2⟩ := hm.cells hj
  injection hv with e1 _ _
  injection e1 with e1
  injection e1 with e1
  subst e1
  clear hm
  have i0 : (0 : Int) ≤ (i : Int) := by omega
  have i1 : (i : Int) < (l.length : Int) := by omega
  have j0 : (0 : Int) ≤ (j : Int) := by omega
  have j1 : (j : Int) < (l.length : Int) := by omega
  generalize l.length = n at i1 j1
  have HT := Lib.hid (@mless_t (el Mo.d l i) (el Mo.d l j))
  have HE := Lib.hid (@mless_e (el Mo.d l i) (el Mo.d l j))
  generalize el Mo.d l i = a at a0 a1 a2 HT HE
  generalize el Mo.d l j = b at b0 b1 b2 HT HE
  obtain ⟨r, hr⟩ : ∃ r, mless a b = r := ⟨_, rfl⟩
  rw [hr] at HT HE ⊢
  clear hr
  clear hi hj
  obtain ⟨at', ae, ai⟩ := a
  obtain ⟨bt, be, bi⟩ := b
  simp only at a0 a1 a2 b0 b1 b2
  by_cases ht : at' = bt
  · have he := Lib.hid (HE.out ht)
    subst ht
    clear HT HE
    have f0 : (at' != at') = false := by simp
    cases ae
    · go_enter Tryz.func181, Tryz.ntmps181
      go_wp2
      go_region
      go_wp2
      go_ret
      refine ⟨?_, ?_⟩
      · rw [he.out]; simp
      · exact (Still.refl _).drew
    · go_enter Tryz.func181, Tryz.ntmps181
      go_wp2
      go_region
      go_wp2
      go_ret
      refine ⟨?_, ?_⟩
      · rw [he.out]; simp
      · exact (Still.refl _).drew
  · have he := Lib.hid (HT.out ht)
    clear HT HE
    have f0 : (at' != bt) = true := by simpa using ht
    go_enter Tryz.func181, Tryz.ntmps181
    go_wp2
    go_region
    go_wp2
    go_region
    go_wp2
    go_ret
    refine ⟨?_, ?_⟩
    · rw [he.out]; rfl
    · exact (Still.refl _).drew.drew
theorem mflat_set : ∀ (l : List Mo) (i : Nat) (m : Mo), mflat (l.set i m) = (((mflat l).set (i * 3) (.int .i64 m.t)).set (i * 3 + 1) (.bool m.ends)).set (i * 3 + 2) (.int .i64 m.i)
  | [], i, m => by simp [mflat]
  | x :: l, 0, m => by unfold mflat; simp [Mo.cells]
  | x :: l, i + 1, m => by
    have h := mflat_set l i m
    rw [List.set_cons_succ]
    unfold mflat at h ⊢
    rw [List.flatMap_cons, List.flatMap_cons, h]
    have e : (Mo.cells x).length = 3 := rfl
    rw [List.set_append_right _ _ (by rw [e]; omega), List.set_append_right _ _ (by rw [e]; omega), List.set_append_right _ _ (by rw [e]; omega), e, show (i + 1) * 3 - 3 = i * 3 by omega, show (i + 1) * 3 + 1 - 3 = i * 3 + 1 by omega, show (i + 1) * 3 + 2 - 3 = i * 3 + 2 by omega]
theorem own_set {w : World} {base : Nat} {e : TypeId} {size g cap n : Nat} {xs : List Value} (h : w.ownsRow base e size (.slice (some ⟨g, 0, none⟩) n cap) n xs) (k : Nat) (u : Value) : (w.setCell ⟨g, k, none⟩ u).ownsRow base e size (.slice (some ⟨g, 0, none⟩) n cap) n (xs.set k u) := by
  obtain ⟨h1, h2⟩ := h
  rcases h2 with ⟨h0, _⟩ | ⟨g', cap', cur, hv, hg, hh, hn, hcap, hsz, htake⟩
  · cases h0
  · cases hv
    exact ⟨by rw [List.length_set]; exact h1, .inr ⟨g, cap, _, rfl, hg, heap_setCell_same w g k cur e u hh, hn, hcap, by simp [hsz], by rw [Array.toList_setIfInBounds, List.take_set, htake]⟩⟩
theorem own_set3 {w : World} {base g cap n : Nat} {l : List Mo} (h : w.ownsRow base 103 3 (.slice (some ⟨g, 0, none⟩) n cap) n (mflat l)) (i : Nat) (m : Mo) : (((w.setCell ⟨g, i * 3, none⟩ (.int .i64 m.t)).setCell ⟨g, i * 3 + 1, none⟩ (.bool m.ends)).setCell ⟨g, i * 3 + 2, none⟩ (.int .i64 m.i)).ownsRow base 103 3 (.slice (some ⟨g, 0, none⟩) n cap) n (mflat (l.set i m)) := by
  rw [mflat_set]
  exact own_set (own_set (own_set h _ _) _ _) _ _
theorem AK.still {bo bm : Nat} {v : Value} {w w' : World} (h : Still w w') : AK bo bm v w w' := AK.ofBelow (h.below _)
theorem own_frozen {w : World} {base : Nat} {e : TypeId} {size g cap n : Nat} {xs : List Value} (h : w.ownsRow base e size (.slice (some ⟨g, 0, none⟩) n cap) n xs) (k : Nat) : w.frozen? ⟨g, k, none⟩ = false := by
  rcases h.2 with ⟨h0, _⟩ | ⟨g', cap', cur, hv, hg, hh, _⟩
  · cases h0
  · cases hv
    unfold World.frozen?; simp only []; rw [hh]; simp
theorem AK.drew {bo bm : Nat} {v : Value} {w w' : World} (h : AK bo bm v w w') : AK bo bm v w w'.drew := ⟨h.os, h.tape, h.output, h.size, h.block⟩
theorem AK.setRow {bo bm g n c : Nat} {w w' : World} (h : AK bo bm (.slice (some ⟨g, 0, none⟩) n c) w w') (k : Nat) (x : Value) : AK bo bm (.slice (some ⟨g, 0, none⟩) n c) w (w'.setCell ⟨g, k, none⟩ x) :=
  ⟨h.os, h.tape, h.output, by rw [World.size_setCell]; exact h.size, fun j hj h1 h2 h3 => (Below.heap_setCell w' ⟨g, k, none⟩ x j (fun e => h3 (by rw [e]; rfl))).trans (h.block j hj h1 h2 h3)⟩
def IsMo (x : Value) : Prop := (∃ n, x = .int .i64 n) ∨ ∃ b, x = .bool b
theorem cell_none_set {w : World} {a : Addr} {x : Value} (h : w.cell? a = none) : (w.setCell a x).cell? a = none := by
  unfold World.cell? at h ⊢
  unfold World.setCell
  simp only [Array.getElem?_modify, if_true] at h ⊢
  cases hb : w.heap[a.block]? with
  | none => rw [hb] at h; simp
  | some o =>
    rw [hb] at h
    cases o with
    | cells c t f =>
      simp only [Option.map_some] at h ⊢
      split at h
      · rename_i hs
        simp_all
      · simp_all
    | _ => simp_all
theorem RowAll.set {Pd : Value → Prop} {v : Value} {w : World} (h : RowAll Pd v w) (a : Addr) {x : Value} (hx : Pd x) : RowAll Pd v (w.setCell a x) := fun g hg j y hy => by
  by_cases e : a = ⟨g, j, none⟩
  · subst e
    cases hz : w.cell? ⟨g, j, none⟩ with
    | none => rw [cell_none_set hz] at hy; cases hy
    | some z => rw [World.cell?_setCell_same _ _ _ hz] at hy; cases hy; exact hx
  · rw [World.cell?_setCell_other _ _ _ _ (fun q => e q)] at hy; exact h g hg j y hy
theorem RowAll.drew {Pd : Value → Prop} {v : Value} {w : World} (h : RowAll Pd v w) : RowAll Pd v w.drew := h
set_option maxHeartbeats 4000000 in
theorem Swap_any (l : List Mo) (base : Nat) (v : Value) (i j : Nat) (w : World) (hm : Mos w base v l) (hi : i < l.length) (hj : j < l.length) :
    Calls Tryz.prog 184 #[v, .int .i64 i, .int .i64 j] w fun e w' => e = .returned (.tuple #[]) ∧ Mos w' base v (sw Mo.d l i j) ∧ (∀ bo bm, AK bo bm v w w') ∧ (RowAll IsMo v w → RowAll IsMo v w') := by
  obtain ⟨g, c, rfl, a0, a1, a2⟩ := hm.cells hi
  obtain ⟨g', c', hv, b0, b1, b2⟩ := hm.cells hj
  injection hv with e1 _ _
  injection e1 with e1
  injection e1 with e1
  subst e1
  have fz := own_frozen hm
  have fi0 := fz (i * 3)
  have fi1 := fz (i * 3 + 1)
  have fi2 := fz (i * 3 + 2)
  have fj0 := fz (j * 3)
  have fj1 := fz (j * 3 + 1)
  have fj2 := fz (j * 3 + 2)
  clear fz
  have HM := Lib.hid hm
  clear hm
  have i0 : (0 : Int) ≤ (i : Int) := by omega
  have i1 : (i : Int) < (l.length : Int) := by omega
  have j0 : (0 : Int) ≤ (j : Int) := by omega
  have j1 : (j : Int) < (l.length : Int) := by omega
  have SW : Hid (sw Mo.d l i j = (l.set i (el Mo.d l j)).set j (el Mo.d l i)) := Lib.hid rfl
  have LN : Hid ((sw Mo.d l i j).length = l.length) := Lib.hid (sw_length ..)
  obtain ⟨n, hn⟩ : ∃ n, n = l.length := ⟨_, rfl⟩
  rw [← hn] at i1 j1
  unfold Mos at HM ⊢
  rw [← hn] at HM ⊢
  have HN := Lib.hid hn
  clear hn hi hj
  generalize el Mo.d l i = a at a0 a1 a2 SW
  generalize el Mo.d l j = b at b0 b1 b2 SW
  obtain ⟨at', ae, ai⟩ := a
  obtain ⟨bt, be, bi⟩ := b
  simp only at a0 a1 a2 b0 b1 b2
  have H2 := Lib.hid (own_set3 (own_set3 HM.out i ⟨bt, be, bi⟩) j ⟨at', ae, ai⟩).drew
  have H3 := Lib.hid fun bo bm : Nat => (AK.drew <| AK.setRow (n := n) (c := c) (AK.setRow (n := n) (c := c) (AK.setRow (n := n) (c := c) (AK.setRow (n := n) (c := c) (AK.setRow (n := n) (c := c) (AK.setRow (n := n) (c := c) (AK.still (bo := bo) (bm := bm) (v := .slice (some ⟨g, 0, none⟩) n c) (Still.refl w)) (i * 3) (.int .i64 bt)) (i * 3 + 1) (.bool be)) (i * 3 + 2) (.int .i64 bi)) (j * 3) (.int .i64 at')) (j * 3 + 1) (.bool ae)) (j * 3 + 2) (.int .i64 ai))
  have H4 : Hid (RowAll IsMo (.slice (some ⟨g, 0, none⟩) n c) w → RowAll IsMo (.slice (some ⟨g, 0, none⟩) n c) ((((((w.setCell ⟨g, i * 3, none⟩ (.int .i64 bt)).setCell ⟨g, i * 3 + 1, none⟩ (.bool be)).setCell ⟨g, i * 3 + 2, none⟩ (.int .i64 bi)).setCell ⟨g, j * 3, none⟩ (.int .i64 at')).setCell ⟨g, j * 3 + 1, none⟩ (.bool ae)).setCell ⟨g, j * 3 + 2, none⟩ (.int .i64 ai)).drew) := Lib.hid fun h => ((((((h.set _ (.inl ⟨_, rfl⟩)).set _ (.inr ⟨_, rfl⟩)).set _ (.inl ⟨_, rfl⟩)).set _ (.inl ⟨_, rfl⟩)).set _ (.inr ⟨_, rfl⟩)).set _ (.inl ⟨_, rfl⟩)).drew
  by_cases hij : i = j
  · subst hij
    rw [a0] at b0
    rw [a1] at b1
    rw [a2] at b2
    injection b0 with b0
    injection b1 with b1
    injection b2 with b2
    injection b0 with _ b0
    injection b1 with b1
    injection b2 with _ b2
    have b2 : ai = bi := by omega
    subst b0
    subst b1
    subst b2
    go_enter Tryz.func184, Tryz.ntmps184
    go_wp2
    go_region
    go_wp2
    go_end0
    refine ⟨rfl, ?_, ?_, ?_⟩
    · rw [LN.out, ← HN.out, SW.out]
      exact H2.out
    · exact H3.out
    · exact H4.out
  · have hji : ¬ j = i := fun e => hij e.symm
    have n01 : ¬ (i * 3 = j * 3 + 1) := by omega
    have m01 : ¬ (j * 3 = i * 3 + 1) := by omega
    have n02 : ¬ (i * 3 = j * 3 + 2) := by omega
    have m02 : ¬ (j * 3 = i * 3 + 2) := by omega
    have n10 : ¬ (i * 3 + 1 = j * 3) := by omega
    have m10 : ¬ (j * 3 + 1 = i * 3) := by omega
    have n12 : ¬ (i * 3 + 1 = j * 3 + 2) := by omega
    have m12 : ¬ (j * 3 + 1 = i * 3 + 2) := by omega
    have n20 : ¬ (i * 3 + 2 = j * 3) := by omega
    have m20 : ¬ (j * 3 + 2 = i * 3) := by omega
    have n21 : ¬ (i * 3 + 2 = j * 3 + 1) := by omega
    have m21 : ¬ (j * 3 + 2 = i * 3 + 1) := by omega
    go_enter Tryz.func184, Tryz.ntmps184
    go_wp2
    go_region
    go_wp2
    go_end0
    refine ⟨rfl, ?_, ?_, ?_⟩
    · rw [LN.out, ← HN.out, SW.out]
      exact H2.out
    · exact H3.out
    · exact H4.out
end Go.Proofs.YtpdfmfkoopdfgaaGreatDoor
end
section
namespace Go.Proofs.YtpdfmfkoopdfgaaGreatDoor
set_option maxRecDepth 100000
open LinP HeapP
section
variable {G : Type} {S : LinP.Sys G}
def moOf (S : LinP.Sys G) (e : Ev) : Mo := ⟨S.at e, e.2, e.1⟩
theorem key_less (a b : Ev) : (moOf S a).key ≤ (moOf S b).key ↔ ¬ evLess S b a := by
  unfold moOf Mo.key evLess
  obtain ⟨i, x⟩ := a
  obtain ⟨j, y⟩ := b
  generalize S.at (i, x) = p
  generalize S.at (j, y) = q
  cases x <;> cases y <;> simp <;> omega
variable (S) in
inductive Been (fr : List (St G)) : List Ev → List Nat → List (St G) → Prop
  | start : Been fr [] [] fr
  | beg {pre L cur} (i : Nat) : Been fr pre L cur → Been fr (pre ++ [(i, false)]) (L ++ [i]) cur
  | stop {pre L cur mid} (i : Nat) : Been fr pre L cur → Grown S L cur mid → Been fr (pre ++ [(i, true)]) (L.filter fun j => decide (j ≠ i)) (mid.filter fun s => isD s.2 i)
theorem Been.run {fr : List (St G)} {pre : List Ev} {L : List Nat} {cur : List (St G)} (h : Been S fr pre L cur) : ∀ {ev : List Ev} {out : List (St G)}, Run S ev L cur out → Run S (pre ++ ev) [] fr out := by
  induction h with
  | start => exact fun h => h
  | beg i _ ih =>
    intro ev out hr
    rw [List.append_assoc]
    exact ih (.beg i hr)
  | stop i _ hg ih =>
    intro ev out hr
    rw [List.append_assoc]
    exact ih (.stop i hg hr)
theorem Been.live {fr : List (St G)} {pre : List Ev} {L : List Nat} {cur : List (St G)} (h : Been S fr pre L cur) : (∀ i ∈ L, (i, false) ∈ pre) ∧ L.length ≤ pre.length := by
  induction h with
  | start => exact ⟨fun i hi => (by cases hi), Nat.le_refl _⟩
  | beg i _ ih =>
    refine ⟨fun j hj => ?_, by simp only [List.length_append, List.length_singleton]; omega⟩
    rcases List.mem_append.1 hj with q | q
    · exact List.mem_append_left _ (ih.1 j q)
    · rw [List.mem_singleton] at q; subst q; simp
  | @stop pre L cur mid i _ _ ih =>
    refine ⟨fun j hj => List.mem_append_left _ (ih.1 j (List.mem_filter.1 hj).1), ?_⟩
    have := List.length_filter_le (fun j => decide (j ≠ i)) L
    simp only [List.length_append, List.length_singleton]
    omega
variable (S) in
structure PreCut (pre rest : List Ev) : Prop where
  perm : (pre ++ rest).Perm (moments S)
  sorted : pre.Pairwise fun a b => ¬ evLess S b a
  ahead : ∀ a ∈ pre, ∀ b ∈ rest, ¬ evLess S b a
theorem PreCut.start {l : List Ev} (h : l.Perm (moments S)) : PreCut S [] l := ⟨h, .nil, fun a ha => by cases ha⟩
theorem PreCut.next {pre rest rest' : List Ev} {e : Ev} (h : PreCut S pre rest) (hp : rest.Perm (e :: rest')) (hm : ∀ b ∈ rest, ¬ evLess S b e) : PreCut S (pre ++ [e]) rest' := by
  refine ⟨?_, ?_, ?_⟩
  · rw [List.append_assoc]
    exact (hp.symm.append_left pre).trans h.perm
  · rw [List.pairwise_append]
    refine ⟨h.sorted, List.pairwise_singleton _ _, fun a ha b hb => ?_⟩
    rw [List.mem_singleton] at hb; subst hb
    exact h.ahead a ha _ (hp.mem_iff.2 (List.mem_cons_self ..))
  · intro a ha b hb
    have hb2 := hp.mem_iff.2 (List.mem_cons_of_mem e hb)
    rcases List.mem_append.1 ha with q | q
    · exact h.ahead a q b hb2
    · rw [List.mem_singleton] at q; subst q; exact hm b hb2
theorem PreCut.mem {pre rest : List Ev} (h : PreCut S pre rest) {e : Ev} (he : e ∈ pre) : e ∈ moments S := h.perm.mem_iff.1 (List.mem_append_left _ he)
theorem PreCut.era {pre : List Ev} {fr cur out : List (St G)} {L : List Nat} (h : PreCut S pre []) (hb : Been S fr pre L cur) (hg : Grown S L cur out) : Era S fr out := by
  refine ⟨pre, ?_, h.sorted, ?_⟩
  · have := h.perm; rwa [List.append_nil] at this
  · have := hb.run (.fin hg)
    rwa [List.append_nil] at this
theorem PreCut.live {pre rest : List Ev} {fr cur : List (St G)} {L : List Nat} (h : PreCut S pre rest) (hb : Been S fr pre L cur) : (∀ i ∈ L, i < S.n) ∧ L.length ≤ (moments S).length := by
  refine ⟨fun i hi => (mem_moments.1 (h.mem (hb.live.1 i hi))).1, ?_⟩
  have h1 := hb.live.2
  have h2 := h.perm.length_eq
  rw [List.length_append] at h2
  omega
/-- One moment out of the heap. -/
theorem pop_ev {rest : List Ev} {x : Mo} {l l' : List Mo} (hp : l.Perm (rest.map (moOf S))) (hx : (x :: l').Perm l) (hm : ∀ y ∈ l, x.key ≤ y.key) : ∃ e rest', x = moOf S e ∧ rest.Perm (e :: rest') ∧ l'.Perm (rest'.map (moOf S)) ∧ ∀ b ∈ rest, ¬ evLess S b e := by
  have h1 := hx.trans hp
  have hmem := h1.mem_iff.1 (List.mem_cons_self ..)
  obtain ⟨e, he, rfl⟩ := List.mem_map.1 hmem
  refine ⟨e, rest.erase e, rfl, List.perm_cons_erase he, ?_, fun b hb => ?_⟩
  · have h2 := (List.perm_cons_erase he).map (moOf S)
    rw [List.map_cons] at h2
    exact (h1.trans h2).cons_inv
  · exact (key_less e b).1 (hm _ (hp.mem_iff.2 (List.mem_map.2 ⟨b, hb, rfl⟩)))
/-- The moments of the first k points. -/
def momTo (S : LinP.Sys G) (k : Nat) : List Ev := (List.range k).flatMap fun i => (i, false) :: (if S.must i then [(i, true)] else [])
theorem momTo_all : momTo S S.n = moments S := rfl
theorem momTo_succ (k : Nat) : momTo S (k + 1) = momTo S k ++ ((k, false) :: (if S.must k then [(k, true)] else [])) := by
  unfold momTo
  rw [List.range_succ, List.flatMap_append]
  simp
theorem momTo_length (k : Nat) : (momTo S k).length ≤ 2 * k := by
  induction k with
  | zero => simp [momTo]
  | succ k ih =>
    rw [momTo_succ, List.length_append, List.length_cons]
    split <;> simp <;> omega
end
end Go.Proofs.YtpdfmfkoopdfgaaGreatDoor
end
section
namespace Go.Proofs.YtpdfmfkoopdfgaaGreatDoor
set_option maxRecDepth 100000
open LinP HeapP
section
variable {G : Type} {S : LinP.Sys G}

/-- The graph behind the first k of some points. -/
def gAt (S : LinP.Sys G) (g : G) (w : List Nat) (k : Nat) : G := (w.take k).foldl (fun g i => S.nx i g) g
theorem gAt_snoc (g : G) (w : List Nat) (i : Nat) {k : Nat} (hk : k ≤ w.length) : gAt S g (w ++ [i]) k = gAt S g w k := by
  unfold gAt
  rw [List.take_append_of_le_length hk]
theorem gAt_last (g : G) (w : List Nat) (i : Nat) : gAt S g (w ++ [i]) (w.length + 1) = S.nx i (gAt S g w w.length) := by
  unfold gAt
  rw [List.take_of_length_le (by simp), List.foldl_append, List.take_length]
  rfl
/-- A state is told by a code: the turners' places in a word, the word's length when questions were first read. -/
structure Coded (S : LinP.Sys G) (N : Nat) (c : Int → Nat) (Rd : Nat → Prop) (g : G) (w : List Nat) (s : St G) : Prop where
  mem : ∀ i ∈ w, i < S.n ∧ S.turn i = true
  pos : ∀ k i, w[k]? = some i → c (S.fr i) = k
  abs : ∀ i, i < S.n → S.turn i = true → i ∉ w → c (S.fr i) = N
  low : w.length ≤ N
  at' : s.1 = gAt S g w w.length
  len : s.2.length = S.n
  tn : ∀ i, i < S.n → S.turn i = true → (isD s.2 i = true ↔ i ∈ w)
  rdl : ∀ i, i < S.n → S.turn i = false → Rd i → c (S.fr i) ≤ w.length
  qn : ∀ i, i < S.n → S.turn i = false → (isD s.2 i = true ↔ Rd i ∧ ∃ k, c (S.fr i) ≤ k ∧ k ≤ w.length ∧ S.fit i (gAt S g w k) = true)
theorem Coded.word {N : Nat} {c c' : Int → Nat} {Rd Rd' : Nat → Prop} {g g' : G} {w w' : List Nat} {s s' : St G} (h : Coded S N c Rd g w s) (h' : Coded S N c' Rd' g' w' s') (hc : ∀ i, i < S.n → c (S.fr i) = c' (S.fr i)) (hu : ∀ i j, i < S.n → j < S.n → S.turn i = true → S.fr i = S.fr j → i = j) : w = w' := by
  have one : ∀ {c c' : Int → Nat} {Rd Rd' : Nat → Prop} {g g' : G} {w w' : List Nat} {s s' : St G}, Coded S N c Rd g w s → Coded S N c' Rd' g' w' s' → (∀ i, i < S.n → c (S.fr i) = c' (S.fr i)) → ∀ (k i : Nat), w[k]? = some i → w'[k]? = some i := by
    intro c c' Rd Rd' g g' w w' s s' h h' hc k i hk
    have hm := h.mem i (List.mem_of_getElem? hk)
    have hp := h.pos k i hk
    have hlt := (List.getElem?_eq_some_iff.1 hk).1
    have hlow := h.low
    by_cases hi : i ∈ w'
    · obtain ⟨j, hj, he⟩ := List.getElem_of_mem hi
      have h2 := h'.pos j i (by rw [List.getElem?_eq_getElem hj, he])
      rw [hc i hm.1] at hp
      have : k = j := by omega
      subst this
      rw [List.getElem?_eq_getElem hj, he]
    · have h2 := h'.abs i hm.1 hm.2 hi
      rw [hc i hm.1] at hp
      omega
  apply List.ext_getElem?
  intro k
  cases hk : w[k]? with
  | some i => exact (one h h' hc k i hk).symm
  | none =>
    cases hk' : w'[k]? with
    | none => rfl
    | some i =>
      have := one h' h (fun i hi => (hc i hi).symm) k i hk'
      rw [hk] at this; cases this
/-- One code, one state. -/
theorem Coded.fun {N : Nat} {c c' : Int → Nat} {Rd : Nat → Prop} {g : G} {w w' : List Nat} {s s' : St G} (h : Coded S N c Rd g w s) (h' : Coded S N c' Rd g w' s') (hc : ∀ i, i < S.n → c (S.fr i) = c' (S.fr i)) (hu : ∀ i j, i < S.n → j < S.n → S.turn i = true → S.fr i = S.fr j → i = j) : s = s' := by
  obtain rfl := h.word h' hc hu
  obtain ⟨g1, d1⟩ := s
  obtain ⟨g2, d2⟩ := s'
  have e1 : g1 = g2 := h.at'.trans h'.at'.symm
  have e2 : d1 = d2 := by
    apply isD_ext (h.len.trans h'.len.symm)
    intro i
    by_cases hi : i < S.n
    · rw [Bool.eq_iff_iff]
      cases ht : S.turn i
      · rw [h.qn i hi ht, h'.qn i hi ht, hc i hi]
      · rw [h.tn i hi ht, h'.tn i hi ht]
    · have a : ∀ d : List Bool, d.length = S.n → isD d i = false := fun d hd => by
        cases hq : isD d i
        · rfl
        · exact absurd (isD_lt hq) (by omega)
      rw [a d1 h.len, a d2 h'.len]
  rw [e1, e2]
/-- A turner more. -/
theorem Coded.next {N : Nat} {c : Int → Nat} {pre : List Ev} {L : List Nat} {g : G} {w : List Nat} {s : St G} (h : Coded S N c (fun i => (i, false) ∈ pre) g w s) (hu : ∀ i j, i < S.n → j < S.n → S.turn i = true → S.fr i = S.fr j → i = j)
    (hL : ∀ i ∈ L, i < S.n ∧ (i, false) ∈ pre) (hg : ∀ i, (i, false) ∈ pre → i ∉ L → isD s.2 i = true) (hN : w.length < N) {i : Nat} (hi : i ∈ L) (hd : isD s.2 i = false) (ht : S.turn i = true) :
    Coded S N (fun f => if f = S.fr i then w.length else c f) (fun i => (i, false) ∈ pre) g (w ++ [i]) (S.nx i s.1, rd S L (S.nx i s.1) (s.2.set i true)) := by
  have hin := (hL i hi).1
  have hiw : i ∉ w := fun q => by rw [(h.tn i hin ht).2 q] at hd; cases hd
  have hne : ∀ j, j < S.n → j ≠ i → S.fr j ≠ S.fr i := fun j hj hji e => hji (hu i j hin hj ht e.symm).symm
  have hil : i < s.2.length := by rw [h.len]; exact hin
  have hL2 : ∀ j ∈ L, j < (s.2.set i true).length := by rw [List.length_set, h.len]; exact fun j hj => (hL j hj).1
  have hat : S.nx i s.1 = gAt S g (w ++ [i]) (w.length + 1) := by rw [gAt_last, ← h.at']
  refine ⟨fun j hj => ?_, fun k j hk => ?_, fun j hj hjt hjw => ?_, by simp; omega, by simpa using hat, by rw [rd_len, List.length_set]; exact h.len, fun j hj hjt => ?_, fun j hj hjt hr => ?_, fun j hj hjt => ?_⟩
  · rcases List.mem_append.1 hj with q | q
    · exact h.mem j q
    · rw [List.mem_singleton] at q; subst q; exact ⟨hin, ht⟩
  · rcases Nat.lt_or_ge k w.length with q | q
    · rw [List.getElem?_append_left q] at hk
      have hj := List.mem_of_getElem? hk
      show (if _ then _ else _) = _
      rw [if_neg (hne j (h.mem j hj).1 (fun e => by subst e; exact hiw hj))]
      exact h.pos k j hk
    · rw [List.getElem?_append_right q] at hk
      have hz : k - w.length = 0 := by
        have := (List.getElem?_eq_some_iff.1 hk).1
        simp at this; omega
      rw [hz] at hk
      simp at hk
      subst hk
      show (if _ then _ else _) = _
      rw [if_pos rfl]; omega
  · rw [List.mem_append, List.mem_singleton] at hjw
    show (if _ then _ else _) = _
    rw [if_neg (hne j hj (fun e => hjw (.inr e)))]
    exact h.abs j hj hjt (fun q => hjw (.inl q))
  · show isD (rd S L _ _) j = true ↔ _
    rw [isD_rd hL2, hjt, isD_set hil, List.mem_append, List.mem_singleton]
    by_cases hij : i = j
    · subst hij; simp
    · rw [if_neg hij]
      have := h.tn j hj hjt
      simp only [Bool.not_true, Bool.and_false, Bool.false_and, Bool.or_false]
      rw [this]
      constructor
      · exact .inl
      · rintro (q | q)
        · exact q
        · exact absurd q.symm hij
  · have hji : j ≠ i := fun e => by subst e; rw [ht] at hjt; cases hjt
    have := h.rdl j hj hjt hr
    rw [if_neg (hne j hj hji)]
    simp; omega
  · have hji : j ≠ i := fun e => by subst e; rw [ht] at hjt; cases hjt
    have hq := h.qn j hj hjt
    rw [if_neg (hne j hj hji)]
    show isD (rd S L _ _) j = true ↔ _
    rw [isD_rd hL2, hjt, isD_set hil, if_neg (Ne.symm hji), Bool.or_eq_true, hq]
    simp only [Bool.not_false, Bool.and_true, Bool.and_eq_true, List.contains_iff_mem, List.length_append, List.length_singleton]
    rw [hat]
    constructor
    · rintro (⟨hp, k, h1, h2, h3⟩ | ⟨h1, h2⟩)
      · exact ⟨hp, k, h1, by omega, by rw [gAt_snoc _ _ _ h2]; exact h3⟩
      · have hp := (hL j h1).2
        have := h.rdl j hj hjt hp
        exact ⟨hp, w.length + 1, by omega, Nat.le_refl _, h2⟩
    · rintro ⟨hp, k, h1, h2, h3⟩
      rcases Nat.lt_or_ge w.length k with q | q
      · have hk : k = w.length + 1 := by omega
        subst hk
        by_cases hjL : j ∈ L
        · exact .inr ⟨hjL, h3⟩
        · exact .inl (hq.1 (hg j hp hjL))
      · rw [gAt_snoc _ _ _ q] at h3
        exact .inl ⟨hp, k, h1, q, h3⟩
/-- Read, at a stage's start. -/
theorem Coded.start {N : Nat} {c : Int → Nat} {pre pre' : List Ev} {L : List Nat} {g : G} {w : List Nat} {s : St G} (h : Coded S N c (fun i => (i, false) ∈ pre') g w s)
    (hL : ∀ i ∈ L, i < S.n ∧ (i, false) ∈ pre) (hg : ∀ i, (i, false) ∈ pre → i ∉ L → isD s.2 i = true)
    (hsub : ∀ i, (i, false) ∈ pre' → (i, false) ∈ pre) (hn : ∀ i, (i, false) ∈ pre → i < S.n)
    (hu : ∀ i j, i < S.n → j < S.n → S.turn i = true → S.fr i = S.fr j → i = j)
    (hside : ∀ i j, (i, false) ∈ pre' → (j, false) ∈ pre → S.fr i = S.fr j → (j, false) ∈ pre') :
    ∃ c', (∀ f, c' f ≤ w.length ∨ c' f = c f) ∧ (∀ f, (∀ i, i < S.n → S.fr i ≠ f) → c' f = c f) ∧ Coded S N c' (fun i => (i, false) ∈ pre) g w (s.1, rd S L s.1 s.2) := by
  classical
  have hL2 : ∀ j ∈ L, j < s.2.length := by rw [h.len]; exact fun j hj => (hL j hj).1
  let new : Int → Prop := fun f => ∃ j, (j, false) ∈ pre ∧ (j, false) ∉ pre' ∧ S.turn j = false ∧ S.fr j = f
  have nt : ∀ j, j < S.n → S.turn j = true → ¬ new (S.fr j) := fun j hj hjt ⟨i, h1, _, h3, h4⟩ => by
    have := hu j i hj (hn i h1) hjt h4.symm
    subst this; rw [hjt] at h3; cases h3
  refine ⟨fun f => if new f then w.length else c f, fun f => ?_, fun f hf => ?_, ?_⟩
  · by_cases q : new f
    · left; exact Nat.le_of_eq (if_pos q)
    · right; exact if_neg q
  · exact if_neg (fun ⟨i, h1, _, _, h4⟩ => hf i (hn i h1) h4)
  · refine ⟨h.mem, fun k i hk => ?_, fun i hi ht hw => ?_, h.low, h.at', by rw [rd_len]; exact h.len, fun i hi ht => ?_, fun i hi ht hp => ?_, fun i hi ht => ?_⟩
    · have hm := h.mem i (List.mem_of_getElem? hk)
      exact (if_neg (nt i hm.1 hm.2)).trans (h.pos k i hk)
    · exact (if_neg (nt i hi ht)).trans (h.abs i hi ht hw)
    · show isD (rd S L _ _) i = true ↔ _
      rw [isD_rd hL2, ht]
      simpa using h.tn i hi ht
    · by_cases q : new (S.fr i)
      · exact Nat.le_of_eq (if_pos q)
      · refine Nat.le_trans (Nat.le_of_eq (if_neg q)) ?_
        have hp' : (i, false) ∈ pre' := Classical.byContradiction fun hx => q ⟨i, hp, hx, ht, rfl⟩
        exact h.rdl i hi ht hp'
    · have hq := h.qn i hi ht
      show isD (rd S L _ _) i = true ↔ _
      rw [isD_rd hL2, ht, Bool.or_eq_true, hq]
      simp only [Bool.not_false, Bool.and_true, Bool.and_eq_true, List.contains_iff_mem]
      by_cases hp : (i, false) ∈ pre
      · by_cases hp' : (i, false) ∈ pre'
        · have q : ¬ new (S.fr i) := fun ⟨j, h1, h2, _, h4⟩ => h2 (hside i j hp' h1 h4.symm)
          rw [if_neg q]
          constructor
          · rintro (⟨_, k, h1, h2, h3⟩ | ⟨_, h2⟩)
            · exact ⟨hp, k, h1, h2, h3⟩
            · exact ⟨hp, w.length, h.rdl i hi ht hp', Nat.le_refl _, by rw [← h.at']; exact h2⟩
          · rintro ⟨_, k, h1, h2, h3⟩
            exact .inl ⟨hp', k, h1, h2, h3⟩
        · have q : new (S.fr i) := ⟨i, hp, hp', ht, rfl⟩
          rw [if_pos q]
          constructor
          · rintro (⟨h0, _⟩ | ⟨_, h2⟩)
            · exact absurd h0 hp'
            · exact ⟨hp, w.length, Nat.le_refl _, Nat.le_refl _, by rw [← h.at']; exact h2⟩
          · rintro ⟨_, k, h1, h2, h3⟩
            have hk : k = w.length := by omega
            subst hk
            rw [← h.at'] at h3
            by_cases hiL : i ∈ L
            · exact .inr ⟨hiL, h3⟩
            · exact .inl (hq.1 (hg i hp hiL))
      · have hp' : (i, false) ∉ pre' := fun q => hp (hsub i q)
        constructor
        · rintro (⟨h0, _⟩ | ⟨h0, _⟩)
          · exact absurd h0 hp'
          · exact absurd (hL i h0).2 hp
        · rintro ⟨h0, _⟩; exact absurd h0 hp

/-- What is asked of an era's points. -/
structure CSys (S : LinP.Sys G) (N : Nat) : Prop where
  good : S.Good
  uniq : ∀ i j, i < S.n → j < S.n → S.turn i = true → S.fr i = S.fr j → i = j
  words : ∀ w : List Nat, w.Nodup → (∀ i ∈ w, i < S.n ∧ S.turn i = true) → w.length ≤ N
theorem Coded.nodup {N : Nat} {c : Int → Nat} {Rd : Nat → Prop} {g : G} {w : List Nat} {s : St G} (h : Coded S N c Rd g w s) : w.Nodup := by
  rw [List.nodup_iff_pairwise_ne, List.pairwise_iff_getElem]
  intro i j hi hj hij e
  have h1 := h.pos i _ (List.getElem?_eq_getElem hi)
  have h2 := h.pos j _ (List.getElem?_eq_getElem hj)
  rw [← e] at h2
  omega
theorem PreCut.back {pre rest : List Ev} {e : Ev} (h : PreCut S (pre ++ [e]) rest) : PreCut S pre (e :: rest) := by
  have hs := List.pairwise_append.1 h.sorted
  refine ⟨by simpa using h.perm, hs.1, fun a ha b hb => ?_⟩
  rcases List.mem_cons.1 hb with rfl | hb
  · exact hs.2.2 a ha _ (List.mem_singleton.2 rfl)
  · exact h.ahead a (List.mem_append_left _ ha) b hb
theorem Been.gone {fr : List (St G)} {pre : List Ev} {L : List Nat} {cur : List (St G)} (h : Been S fr pre L cur) : ∀ i, (i, false) ∈ pre → i ∈ L ∨ (i, true) ∈ pre := by
  induction h with
  | start => intro i hi; cases hi
  | beg k _ ih =>
    intro i hi
    rcases List.mem_append.1 hi with q | q
    · rcases ih i q with q | q
      · exact .inl (List.mem_append_left _ q)
      · exact .inr (List.mem_append_left _ q)
    · rw [List.mem_singleton] at q; injection q with q _; subst q; exact .inl (by simp)
  | stop k _ _ ih =>
    intro i hi
    rcases List.mem_append.1 hi with q | q
    · by_cases hik : i = k
      · subst hik; exact .inr (by simp)
      · rcases ih i q with q | q
        · exact .inl (List.mem_filter.2 ⟨q, by simpa using hik⟩)
        · exact .inr (List.mem_append_left _ q)
    · rw [List.mem_singleton] at q; cases q
theorem Been.stay {fr : List (St G)} (hf : ∀ s ∈ fr, s.2.length = S.n) {pre : List Ev} {L : List Nat} {cur : List (St G)} (h : Been S fr pre L cur) : ∀ {rest}, PreCut S pre rest → (∀ s ∈ cur, s.2.length = S.n) ∧ ∀ s ∈ cur, ∀ k, (k, true) ∈ pre → isD s.2 k = true := by
  induction h with
  | start => exact fun _ => ⟨hf, fun _ _ k hk => by cases hk⟩
  | beg i _ ih =>
    intro rest hp
    have h1 := ih hp.back
    refine ⟨h1.1, fun s hs k hk => ?_⟩
    rcases List.mem_append.1 hk with q | q
    · exact h1.2 s hs k q
    · rw [List.mem_singleton] at q; cases q
  | stop i hb hg ih =>
    intro rest hp
    have h1 := ih hp.back
    have hl := (hp.back.live hb).1
    refine ⟨fun s hs => ?_, fun s hs k hk => ?_⟩
    · obtain ⟨t, ht, hpth⟩ := hg.reach s (List.mem_filter.1 hs).1
      rw [hpth.len]; exact h1.1 t ht
    · obtain ⟨hs1, hs2⟩ := List.mem_filter.1 hs
      rcases List.mem_append.1 hk with q | q
      · obtain ⟨t, ht, hpth⟩ := hg.reach s hs1
        exact hpth.keeps (by rw [h1.1 t ht]; exact hl) (h1.2 t ht k q)
      · rw [List.mem_singleton] at q; injection q with q _; subst q; exact hs2
/-- What is told of the states between two stages: coded, by what had begun at some moment, and at no time both before and behind. -/
structure Codes (S : LinP.Sys G) (N : Nat) (fr : List (St G)) (Bs : (Int → Nat) → G → Prop) (pre pre' : List Ev) (cur : List (St G)) : Prop where
  sub : ∀ i, (i, false) ∈ pre' → (i, false) ∈ pre
  side : ∀ {rest : List Ev}, PreCut S pre rest → ∀ i j, (i, false) ∈ pre' → (j, false) ∈ pre ++ rest → S.fr i = S.fr j → (j, false) ∈ pre'
  cod : ∀ s ∈ cur, ∃ c g w, (∀ f, c f ≤ N) ∧ Bs c g ∧ Coded S N c (fun i => (i, false) ∈ pre') g w s
variable {N : Nat} {Bs : (Int → Nat) → G → Prop}
/-- The states of a stage are coded. -/
theorem Codes.path (hS : CSys S N) (hB : ∀ c c' g, Bs c g → (∀ f, (∀ i, i < S.n → S.fr i ≠ f) → c' f = c f) → Bs c' g) {fr : List (St G)} {pre pre' rest : List Ev} {L : List Nat} {cur : List (St G)} (h : Codes S N fr Bs pre pre' cur) (hf : ∀ s ∈ fr, s.2.length = S.n) (hb : Been S fr pre L cur) (hp : PreCut S pre rest) {t s : St G} (ht : t ∈ cur) (hs : LPath S L t s) :
    ∃ c g w, (∀ f, c f ≤ N) ∧ Bs c g ∧ Coded S N c (fun i => (i, false) ∈ pre) g w s := by
  have hl := hp.live hb
  have hst := hb.stay hf hp
  have hL : ∀ i ∈ L, i < S.n ∧ (i, false) ∈ pre := fun i hi => ⟨hl.1 i hi, hb.live.1 i hi⟩
  have hn : ∀ i, (i, false) ∈ pre → i < S.n := fun i hi => (mem_moments.1 (hp.mem hi)).1
  have hL2 : ∀ i ∈ L, i < t.2.length := by rw [hst.1 t ht]; exact hl.1
  have hgone : ∀ u, LPath S L t u → ∀ i, (i, false) ∈ pre → i ∉ L → isD u.2 i = true := fun u hu i hi hiL => by
    rcases hb.gone i hi with q | q
    · exact absurd q hiL
    · exact hu.keeps hL2 (hst.2 t ht i q)
  induction hs with
  | start =>
    obtain ⟨c, g, w, hc, hbs, hcod⟩ := h.cod t ht
    obtain ⟨c', h1, h2, h3⟩ := hcod.start (pre := pre) hL (fun i hi hiL => by
      rcases hb.gone i hi with q | q
      · exact absurd q hiL
      · exact hst.2 t ht i q) h.sub hn hS.uniq (fun i j hi hj e => h.side hp i j hi (List.mem_append_left _ hj) e)
    exact ⟨c', g, w, fun f => by
      rcases h1 f with q | q
      · exact Nat.le_trans q hcod.low
      · rw [q]; exact hc f, hB c c' g hbs h2, h3⟩
  | @next s i hs hi hd htn hfit ih =>
    obtain ⟨c, g, w, hc, hbs, hcod⟩ := ih
    have hiw : i ∉ w := fun q => by rw [(hcod.tn i (hL i hi).1 htn).2 q] at hd; cases hd
    have hN : w.length < N := by
      have := hS.words (i :: w) (List.nodup_cons.2 ⟨hiw, hcod.nodup⟩) (fun j hj => by
        rcases List.mem_cons.1 hj with rfl | hj
        · exact ⟨(hL _ hi).1, htn⟩
        · exact hcod.mem j hj)
      rw [List.length_cons] at this; omega
    refine ⟨_, g, w ++ [i], fun f => ?_, hB c _ g hbs (fun f hf => ?_), hcod.next hS.uniq hL (hgone s hs) hN hi hd htn⟩
    · show (if _ then _ else _) ≤ _
      split
      · omega
      · exact hc f
    · exact if_neg (fun e => hf i (hL i hi).1 e.symm)
theorem Been.codes (hS : CSys S N) (hB : ∀ c c' g, Bs c g → (∀ f, (∀ i, i < S.n → S.fr i ≠ f) → c' f = c f) → Bs c' g) {fr : List (St G)} (hf : ∀ s ∈ fr, s.2 = zeros S ∧ ∃ c, (∀ f, c f ≤ N) ∧ Bs c s.1) {pre : List Ev} {L : List Nat} {cur : List (St G)} (h : Been S fr pre L cur) : ∀ {rest}, PreCut S pre rest → ∃ pre', Codes S N fr Bs pre pre' cur := by
  have hz : ∀ s ∈ fr, s.2.length = S.n := fun s hs => by rw [(hf s hs).1]; exact List.length_replicate ..
  induction h with
  | start =>
    intro rest hp
    refine ⟨[], fun _ q => (by cases q), fun _ i j q => (by cases q), fun s hs => ?_⟩
    obtain ⟨h1, c, hc, hbs⟩ := hf s hs
    refine ⟨fun f => if ∃ i, i < S.n ∧ S.fr i = f then N else c f, s.1, [], fun f => ?_, hB c _ _ hbs (fun f q => if_neg (fun ⟨i, a, b⟩ => q i a b)), ⟨fun i q => (by cases q), fun k i q => (by simp at q), fun i hi _ _ => if_pos ⟨i, hi, rfl⟩, Nat.zero_le _, rfl, hz s hs, fun i hi _ => ?_, fun i hi _ q => (by cases q), fun i hi _ => ?_⟩⟩
    · show (if _ then _ else _) ≤ _
      split
      · exact Nat.le_refl _
      · exact hc f
    · rw [h1]
      have : isD (zeros S) i = false := isD_none _ _
      rw [this]; simp
    · rw [h1]
      have : isD (zeros S) i = false := isD_none _ _
      rw [this]; simp
  | @beg pre L cur k hb ih =>
    intro rest hp
    obtain ⟨pre', hc⟩ := ih hp.back
    refine ⟨pre', fun i hi => List.mem_append_left _ (hc.sub i hi), fun {rest} hp i j hi hj e => hc.side hp.back i j hi (by simpa using hj) e, hc.cod⟩
  | @stop pre L cur mid k hb hg ih =>
    intro rest hp
    obtain ⟨pre', hc⟩ := ih hp.back
    refine ⟨pre, fun i hi => List.mem_append_left _ hi, fun {rest} hp i j hi hj e => ?_, fun s hs => ?_⟩
    · rw [List.append_assoc, List.singleton_append] at hj
      rcases List.mem_append.1 hj with q | q
      · exact q
      · exfalso
        have h1 : ¬ evLess S (k, true) (i, false) := hp.back.ahead _ hi _ (List.mem_cons_self ..)
        have h2 : ¬ evLess S (j, false) (k, true) := by
          rcases List.mem_cons.1 q with q | q
          · cases q
          · exact hp.ahead _ (by simp) _ q
        unfold evLess at h1 h2
        simp only [Sys.at, Bool.false_eq_true, if_false, if_true, and_true] at h1 h2
        have h3 : ¬ (S.to k < S.fr i) := fun q => h1 (.inl q)
        have h4 : ¬ (S.fr j < S.to k) := fun q => h2 (.inl q)
        have h5 : ¬ (S.fr j = S.to k) := fun q => h2 (.inr q)
        omega
    · obtain ⟨hs1, _⟩ := List.mem_filter.1 hs
      obtain ⟨t, ht, hpth⟩ := hg.reach s hs1
      exact hc.path hS hB hz hb hp.back ht hpth
theorem split_few {α : Type} (f : α → Nat) (B : Nat) : ∀ (N : Nat) (l : List α), (∀ s ∈ l, f s ≤ N) → (∀ v, v ≤ N → (l.filter fun s => decide (f s = v)).length ≤ B) → l.length ≤ (N + 1) * B
  | 0, l, h, hv => by
    have h0 := hv 0 (Nat.le_refl _)
    rw [List.filter_eq_self.2 (fun s hs => by have := h s hs; simp; omega)] at h0
    omega
  | N + 1, l, h, hv => by
    have h1 := split_few f B N (l.filter fun s => decide (f s ≠ N + 1)) (fun s hs => by
      obtain ⟨a, b⟩ := List.mem_filter.1 hs
      have := h s a
      simp at b; omega) (fun v hv2 => by
      rw [List.filter_filter]
      have e : (l.filter fun a => decide (f a = v) && decide (f a ≠ N + 1)) = l.filter fun a => decide (f a = v) := by
        apply List.filter_congr
        intro x _
        by_cases q : f x = v
        · have : f x ≠ N + 1 := by omega
          simp [q]; omega
        · simp [q]
      rw [e]
      exact hv v (by omega))
    have h2 := hv (N + 1) (Nat.le_refl _)
    have h3 : l.length = (l.filter fun s => decide (f s = N + 1)).length + (l.filter fun s => decide (f s ≠ N + 1)).length := by
      clear h hv h1 h2
      induction l with
      | nil => rfl
      | cons a l ih =>
        by_cases q : f a = N + 1
        · simp [q] at ih ⊢; omega
        · simp [q] at ih ⊢; omega
    have h4 : (N + 1 + 1) * B = (N + 1) * B + B := by rw [Nat.add_mul (N + 1) 1, Nat.one_mul]
    omega
theorem few_lists {α : Type} : ∀ (n N : Nat) (l : List α) (f : α → List Nat), l.Nodup → (∀ s ∈ l, ∀ t ∈ l, f s = f t → s = t) → (∀ s ∈ l, (f s).length = n ∧ ∀ x ∈ f s, x ≤ N) → l.length ≤ (N + 1) ^ n
  | 0, N, l, f, hn, hi, h => by
    cases l with
    | nil => simp
    | cons a l =>
      cases l with
      | nil => simp
      | cons b l =>
        exfalso
        have e := hi a (by simp) b (by simp) (by
          have h1 := (h a (by simp)).1
          have h2 := (h b (by simp)).1
          rw [List.length_eq_zero_iff] at h1 h2
          rw [h1, h2])
        subst e
        simp at hn
  | n + 1, N, l, f, hn, hi, h => by
    have := split_few (fun s => (f s).headD 0) ((N + 1) ^ n) N l (fun s hs => by
      have h1 := h s hs
      cases hq : f s with
      | nil => simp
      | cons a r => rw [hq] at h1; exact h1.2 a (by simp)) (fun v hv => by
      refine few_lists n N _ (fun s => (f s).tail) (hn.filter _) (fun s hs t ht e => ?_) (fun s hs => ?_)
      · obtain ⟨s1, s2⟩ := List.mem_filter.1 hs
        obtain ⟨t1, t2⟩ := List.mem_filter.1 ht
        refine hi s s1 t t1 ?_
        have hs3 := (h s s1).1
        have ht3 := (h t t1).1
        simp only [decide_eq_true_eq] at s2 t2
        cases hq : f s with
        | nil => rw [hq] at hs3; cases hs3
        | cons a r =>
          cases hr : f t with
          | nil => rw [hr] at ht3; cases ht3
          | cons b q =>
            rw [hq] at s2 e
            rw [hr] at t2 e
            simp at s2 t2 e
            rw [s2, t2, e]
      · obtain ⟨s1, s2⟩ := List.mem_filter.1 hs
        have h1 := h s s1
        refine ⟨by rw [List.length_tail, h1.1]; rfl, fun x hx => h1.2 x (List.mem_of_mem_tail hx)⟩)
    rw [Nat.pow_succ, Nat.mul_comm]
    exact this
/-- States told by codes are few. -/
theorem few_codes (hu : ∀ i j, i < S.n → j < S.n → S.turn i = true → S.fr i = S.fr j → i = j) {fs : List Int} (hF : ∀ c c' g g', Bs c g → Bs c' g' → (∀ f ∈ fs, c f = c' f) → g = g') (hfs : ∀ i, i < S.n → S.fr i ∈ fs) {Rd : Nat → Prop} (l : List (St G)) (hl : l.Nodup) (h : ∀ s ∈ l, ∃ c g w, (∀ f, c f ≤ N) ∧ Bs c g ∧ Coded S N c Rd g w s) : l.length ≤ (N + 1) ^ fs.length := by
  classical
  obtain ⟨C, hC⟩ : ∃ C : St G → (Int → Nat), ∀ s ∈ l, ∃ g w, (∀ f, C s f ≤ N) ∧ Bs (C s) g ∧ Coded S N (C s) Rd g w s :=
    ⟨fun s => if q : s ∈ l then (h s q).choose else fun _ => 0, fun s hs => by
      have := (h s hs).choose_spec
      simp only [dif_pos hs]
      exact this⟩
  refine few_lists fs.length N l (fun s => fs.map (C s)) hl (fun s hs t ht e => ?_) (fun s hs => ⟨by simp, fun x hx => ?_⟩)
  · obtain ⟨g, w, _, b1, c1⟩ := hC s hs
    obtain ⟨g', w', _, b2, c2⟩ := hC t ht
    have he : ∀ f ∈ fs, C s f = C t f := fun f hf => by
      obtain ⟨k, hk, hkf⟩ := List.getElem_of_mem hf
      have := congrArg (fun l => l[k]?) e
      simp only [List.getElem?_map, List.getElem?_eq_getElem hk, Option.map_some, hkf] at this
      exact Option.some.inj this
    obtain rfl := hF _ _ g g' b1 b2 he
    exact c1.fun c2 (fun i hi => he _ (hfs i hi)) hu
  · obtain ⟨f, _, rfl⟩ := List.mem_map.1 hx
    obtain ⟨_, _, hc, _⟩ := hC s hs
    exact hc f
end
end Go.Proofs.YtpdfmfkoopdfgaaGreatDoor
end
section
namespace Go.Proofs.YtpdfmfkoopdfgaaGreatDoor
set_option maxRecDepth 100000
open Go.RowKit Aid Gr Hs LinP HeapP

section
variable {P : Program} (w : World)
/-- At a step of a region that draws its order. -/
theorem step_append_all {ops : Array Oper} {o : Oper} {a : Act} {K : Act → World → Prop} {Q : Exit → Act → World → Prop} {E : Prop} (hgd : o.guard = none) (s x : Operand) (t : TypeId)
    (ho : o.op = .call { callee := .builtin .append, args := #[s, x], argTypes := #[t, t] }) (Pd : Value → Prop)
    (base : Nat) (e : TypeId) (i : TypeInfo) (z : Value) (size bytes : Nat) (ht : P.underlying t = some (.slice e)) (hi : P.info? e = some i) (hz : i.zero = some z)
    (hsize : i.size = size) (hby : i.bytes = bytes) (hzs : z.cells.size = size) (hsz : 0 < size)
    (v : Value) (n : Nat) (xs : List Value) (hs : a.eval s = v) (hown : w.ownsRow base e size v n xs) (hall : RowAll Pd v w)
    (b m c : Nat) (news : List Value) (hx : a.eval x = .slice (some ⟨b, 0, none⟩) m c) (hl : news.length = m * size) (hnews : ∀ j u, news[j]? = some u → w.cell? ⟨b, 0 + j, none⟩ = some u) (h1 : ∀ u ∈ news, u.oneCell' = true)
    (hpn : ∀ u ∈ news, Pd u) (hpz : ∀ u ∈ z.cells.toList, Pd u) (hm : 0 < m)
    (h63 : n + m ≤ maxLen) (hbytes : (n + m) * bytes ≤ 140737488355328) (hbase : base ≤ w.heap.size)
    (r : Nat) (hrr : r = n + m)
    (h : ∀ A' c' w', w'.ownsRow base e size (.slice A' r c') r (xs ++ news) → w.grownBy w' v.ownBlock → ((Value.slice A' r c').ownBlock = v.ownBlock ∨ (Value.slice A' r c').ownBlock = some w.heap.size) → RowAll Pd (.slice A' r c') w' → K (a.put o.dst (.slice A' r c')) w') :
    if Region.wanted o (yielded ops a.tmps) = true then Oper.wp P o a w K Q else E := by
  have hw : Region.wanted o (yielded ops a.tmps) = true := by simp [Region.wanted, hgd]
  rw [if_pos hw]
  subst hrr
  obtain ⟨v', w', hrun, h2, h3, h4, h5⟩ := append_all (P := P) w Pd base t o.type e i z size bytes ht hi hz hsize hby hzs hsz v n xs hown hall ⟨b, 0, none⟩ m c news hl (fun j u hu => by rw [addr_add]; exact hnews j u hu) h1 hpn hpz hm h63 hbytes hbase
  unfold Oper.wp execOp
  simp only [ho, resolve, invoke, builtin, Sem.run_bind, Sem.run_pure, Result.andThen_ok, List.map_toArray, List.map_cons, List.map_nil, hs, hx, hrun]
  rcases h2.2 with ⟨rfl, h0⟩ | ⟨g, cap, cur, rfl, _⟩
  · omega
  · exact h _ _ w' h2 h3 h4 h5
end
/-- The heap's memory: its box, its row. -/
structure MH (w : World) (base hb : Nat) (v : Value) (l : List Mo) : Prop where
  box : w.heap[hb]? = some (.cells #[v] 100 (0, 0))
  own : Mos w base v l
  kind : RowAll IsMo v w
  low : base ≤ hb
theorem MH.bw {w : World} {base hb : Nat} {v : Value} {l : List Mo} (h : MH w base hb v l) : hb < w.heap.size := lt_of_block h.box
theorem MH.ne {w : World} {base hb : Nat} {v : Value} {l : List Mo} (h : MH w base hb v l) : v.ownBlock ≠ some hb := fun e => by
  obtain ⟨c', fz, hc⟩ := own_row h.own _ e
  rw [h.box] at hc; injection hc with hc; injection hc with _ hc; cases hc
theorem MH.still {w w' : World} {base hb : Nat} {v : Value} {l : List Mo} (h : MH w base hb v l) (k : Still w w') : MH w' base hb v l :=
  ⟨by rw [k.heap]; exact h.box, k.own h.own, fun g hg j x hx => h.kind g hg j x ((k.cell _).symm.trans hx), h.low⟩
theorem frozen_of {w : World} {b : Nat} {c : Array Value} {t : TypeId} (h : w.heap[b]? = some (.cells c t (0, 0))) (k : Nat) : w.frozen? ⟨b, k, none⟩ = false := by
  unfold World.frozen?; simp only []; rw [h]; simp
theorem swap_mh (l : List Mo) (base hb : Nat) (v : Value) (i j : Nat) (w : World) (hm : MH w base hb v l) (hi : i < l.length) (hj : j < l.length) :
    Calls Tryz.prog 184 #[v, .int .i64 i, .int .i64 j] w fun e w' => e = .returned (.tuple #[]) ∧ MH w' base hb v (sw Mo.d l i j) ∧ AK hb hb v w w' := by
  refine (Swap_any l base v i j w hm.own hi hj).mono ?_
  rintro e w' ⟨h1, h2, h3, h4⟩
  exact ⟨h1, ⟨((h3 (hb + 1) (hb + 1)).block hb hm.bw (by omega) (by omega) hm.ne).trans hm.box, h2, h4 hm.kind, hm.low⟩, h3 hb hb⟩
def Mo.val (m : Mo) : Value := .agg #[.int .i64 m.t, .bool m.ends, .int .i64 m.i]
theorem info103 : (Tryz.prog.info? 103).map (fun i => (i.zero, i.size, i.bytes)) = some (some (.agg #[.int .i64 0, .bool false, .int .i64 0]), 3, 24) := by kernel_rfl
theorem assert103 (x : Value) (w : World) : (Instr.typeAssert (.iface 103 x) 20 103 false).run Tryz.prog w = .ok x w := by kernel_rfl
set_option maxHeartbeats 4000000 in
theorem push_any (l : List Mo) (base hb : Nat) (v : Value) (m : Mo) (w : World) (hm : MH w base hb v l) (hl : l.length ≤ 10000000) :
    Calls Tryz.prog 183 #[.pointer (some ⟨hb, 0, none⟩), .iface 103 (.agg #[.int .i64 m.t, .bool m.ends, .int .i64 m.i])] w fun e w' => e = .returned (.tuple #[]) ∧ ∃ v', MH w' base hb v' (l ++ [m]) ∧ AK hb hb v w w' ∧ Nx v v' w := by
  obtain ⟨i0, hi0, hie⟩ := Option.map_eq_some_iff.1 info103
  have hz0 : i0.zero = some (.agg #[.int .i64 0, .bool false, .int .i64 0]) := congrArg Prod.fst hie
  have hz1 : i0.size = 3 := congrArg (fun x => x.2.1) hie
  have hz2 : i0.bytes = 24 := congrArg (fun x => x.2.2) hie
  clear hie
  have HM := Lib.hid hm
  obtain ⟨t, en, i⟩ := m
  have c0 : w.cell? ⟨hb, 0, none⟩ = some v := cell_of_one hm.box
  have HS : Hid (∀ W : World, Below w.heap.size w W → W.cell? ⟨hb, 0, none⟩ = some v ∧ W.frozen? ⟨hb, 0, none⟩ = false) := Lib.hid fun W hW => ⟨cellL (cell_of_one HM.out.box) hW, frozen_of (heapL HM.out.box hW) 0⟩
  have SW := Lib.hid (HS.out w.drew (Below.refl _ _).drew)
  obtain ⟨o, ho⟩ : ∃ o : Obj, o = .cells #[.int .i64 t, .bool en, .int .i64 i] 103 (0, 0) := ⟨_, rfl⟩
  have BA : Hid (Below w.heap.size w (w.alloc (.cells #[.int .i64 t, .bool en, .int .i64 i] 103)).drew) := Lib.hid ((Below.refl _ _).alloc (Nat.le_refl _) _).drew
  have SA := Lib.hid (HS.out _ BA.out)
  have OW : Hid ((w.alloc (.cells #[.int .i64 t, .bool en, .int .i64 i] 103)).drew.ownsRow base 103 3 v l.length (mflat l)) := Lib.hid (own_below HM.out.own BA.out)
  have RW : Hid (RowAll IsMo v (w.alloc (.cells #[.int .i64 t, .bool en, .int .i64 i] 103)).drew) := Lib.hid fun g hg j x hx => HM.out.kind g hg j x ((BA.out.cell (p := ⟨g, j, none⟩) (HM.out.own.lt g hg).2).symm.trans hx)
  have NEW : Hid (∀ j u, [Value.int .i64 t, Value.bool en, Value.int .i64 i][j]? = some u → (w.alloc (.cells #[.int .i64 t, .bool en, .int .i64 i] 103)).drew.cell? ⟨w.heap.size, 0 + j, none⟩ = some u) := Lib.hid fun j u hu => by
    show (w.alloc _).cell? _ = _
    rw [World.cell?_alloc_new, Nat.zero_add]; simpa using hu
  have ON : Hid (∀ u ∈ [Value.int .i64 t, Value.bool en, Value.int .i64 i], u.oneCell' = true) := Lib.hid (by intro u hu; simp only [List.mem_cons, List.not_mem_nil, or_false] at hu; rcases hu with rfl | rfl | rfl <;> rfl)
  have KN : Hid (∀ u ∈ [Value.int .i64 t, Value.bool en, Value.int .i64 i], IsMo u) := Lib.hid (by intro u hu; simp only [List.mem_cons, List.not_mem_nil, or_false] at hu; rcases hu with rfl | rfl | rfl; exact .inl ⟨_, rfl⟩; exact .inr ⟨_, rfl⟩; exact .inl ⟨_, rfl⟩)
  have KZ : Hid (∀ u ∈ (Value.agg #[.int .i64 0, .bool false, .int .i64 0]).cells.toList, IsMo u) := Lib.hid (by intro u hu; simp [Value.cells] at hu; rcases hu with rfl | rfl | rfl; exact .inl ⟨_, rfl⟩; exact .inr ⟨_, rfl⟩; exact .inl ⟨_, rfl⟩)
  have m1 : Hid (l.length + 1 ≤ maxLen) := Lib.hid (by unfold maxLen; omega)
  have k1 : Hid ((l.length + 1) * 24 ≤ 140737488355328) := Lib.hid (by omega)
  have bw : Hid (base ≤ (w.alloc (.cells #[.int .i64 t, .bool en, .int .i64 i] 103)).drew.heap.size) := Lib.hid (Nat.le_trans HM.out.low (Nat.le_trans (Nat.le_of_lt HM.out.bw) BA.out.size))
  have FAR : Hid (∀ W : World, (w.alloc (.cells #[.int .i64 t, .bool en, .int .i64 i] 103)).drew.grownBy W v.ownBlock → W.cell? ⟨hb, 0, none⟩ = some v ∧ W.frozen? ⟨hb, 0, none⟩ = false) := Lib.hid fun W hg => by
    have hn : some hb ≠ v.ownBlock := fun e => HM.out.ne e.symm
    have hlt : hb < (w.alloc (.cells #[.int .i64 t, .bool en, .int .i64 i] 103)).drew.heap.size := Nat.lt_of_lt_of_le HM.out.bw BA.out.size
    exact ⟨(hg.cell_far ⟨hb, 0, none⟩ hlt hn).trans SA.out.1, (hg.frozen_far ⟨hb, 0, none⟩ hlt hn).trans SA.out.2⟩
  have FIN : Hid (∀ A5 c5 w5, w5.ownsRow base 103 3 (.slice A5 (l.length + 1) c5) (l.length + 1) (mflat l ++ [.int .i64 t, .bool en, .int .i64 i]) → (w.alloc (.cells #[.int .i64 t, .bool en, .int .i64 i] 103)).drew.grownBy w5 v.ownBlock → ((Value.slice A5 (l.length + 1) c5).ownBlock = v.ownBlock ∨ (Value.slice A5 (l.length + 1) c5).ownBlock = some (w.alloc (.cells #[.int .i64 t, .bool en, .int .i64 i] 103)).drew.heap.size) → RowAll IsMo (.slice A5 (l.length + 1) c5) w5 → ∃ v', MH (w5.setCell ⟨hb, 0, none⟩ (.slice A5 (l.length + 1) c5)) base hb v' (l ++ [⟨t, en, i⟩]) ∧ AK hb hb v w (w5.setCell ⟨hb, 0, none⟩ (.slice A5 (l.length + 1) c5)) ∧ Nx v v' w) := Lib.hid (by
    intro A5 c5 w5 h1 h2 h3 h4
    have hlt : hb < (w.alloc (.cells #[.int .i64 t, .bool en, .int .i64 i] 103)).drew.heap.size := Nat.lt_of_lt_of_le HM.out.bw BA.out.size
    have hbox : w5.heap[hb]? = some (.cells #[v] 100 (0, 0)) := (h2.block hb hlt (fun e => HM.out.ne e.symm)).trans (heapL HM.out.box BA.out)
    have hne : (Value.slice A5 (l.length + 1) c5).ownBlock ≠ some hb := fun e => by
      obtain ⟨c', fz, hc⟩ := own_row h1 _ e
      rw [hbox] at hc; injection hc with hc; injection hc with _ hc; cases hc
    refine ⟨.slice A5 (l.length + 1) c5, ⟨one_setCell hbox, ?_, fun g hg j x hx => h4 g hg j x ((cell_set_ne w5 ⟨hb, 0, none⟩ ⟨g, j, none⟩ _ (fun e => hne (by rw [hg]; exact congrArg some e))).symm.trans hx), HM.out.low⟩, ?_, ?_⟩
    · show World.ownsRow _ _ _ _ _ _ _
      rw [mflat_append, List.length_append]
      exact ownsRow_setCell_other h1 hne _
    · exact ((AK.ofBelow (bo := hb) (bm := hb) (v := v) BA.out).trans (Nx.refl _ _) (AK.ofRow h2)).setBo _
    · rcases h3 with q | q
      · exact .inl q
      · exact .inr ⟨_, q, BA.out.size⟩)
  have TA := assert103
  clear hm ho
  go_enter Tryz.func183, Tryz.ntmps183
  obtain ⟨q0, f0⟩ := SA.out
  obtain ⟨q1, f1⟩ := SW.out
  go_region_law
    ((refine step_append_all _ (by rfl) (.tmp 7) (.tmp 10) 100 (by rfl) IsMo base 103 i0 _ 3 24 Tryz.underlying100 hi0 hz0 hz1 hz2 rfl (by omega) v l.length (mflat l) (by rfl) OW.out RW.out w.heap.size 1 1 [.int .i64 t, .bool en, .int .i64 i] (by rfl) rfl NEW.out ON.out KN.out KZ.out (by omega) m1.out k1.out bw.out (l.length + 1) rfl ?_; intro A5 c5 w5 hown5 hg5 hl5 hr5; obtain ⟨q5, f5⟩ := FAR.out _ hg5))
  all_goals go_wp2
  all_goals go_end0
  all_goals exact ⟨rfl, FIN.out _ _ _ hown5 hg5 hl5 hr5⟩
theorem own_cap {w : World} {base : Nat} {e : TypeId} {size g cap n : Nat} {xs : List Value} (h : w.ownsRow base e size (.slice (some ⟨g, 0, none⟩) n cap) n xs) : n ≤ cap := by
  rcases h.2 with ⟨h0, _⟩ | ⟨g', cap', cur, hv, hg, hh, hn2, hcap, hsz, htake⟩
  · cases h0
  · cases hv; exact hn2
theorem mflat_take : ∀ (l : List Mo) (n : Nat), mflat (l.take n) = (mflat l).take (n * 3)
  | [], n => by simp [mflat]
  | x :: l, 0 => by simp [mflat]
  | x :: l, n + 1 => by
    have h := mflat_take l n
    unfold mflat at h ⊢
    rw [List.take_succ_cons, List.flatMap_cons, List.flatMap_cons, h]
    have e : (Mo.cells x).length = 3 := rfl
    rw [List.take_append, e, show (n + 1) * 3 - 3 = n * 3 by omega, List.take_of_length_le (show (Mo.cells x).length ≤ (n + 1) * 3 by rw [e]; omega)]
theorem own_take {w : World} {base : Nat} {e : TypeId} {size g cap n k : Nat} {xs : List Value} (h : w.ownsRow base e size (.slice (some ⟨g, 0, none⟩) n cap) n xs) (hk : k ≤ n) : w.ownsRow base e size (.slice (some ⟨g, 0, none⟩) k cap) k (xs.take (k * size)) := by
  obtain ⟨h1, h2⟩ := h
  rcases h2 with ⟨h0, _⟩ | ⟨g', cap', cur, hv, hg, hh, hn, hcap, hsz, htake⟩
  · cases h0
  · cases hv
    have hle : k * size ≤ n * size := Nat.mul_le_mul_right _ hk
    exact ⟨by rw [List.length_take, h1]; omega, .inr ⟨g, cap, cur, rfl, hg, hh, by omega, hcap, hsz, by rw [← htake, List.take_take, Nat.min_eq_left hle]⟩⟩
set_option maxHeartbeats 4000000 in
theorem pop_any (l : List Mo) (n base hb : Nat) (v : Value) (w : World) (hm : MH w base hb v l) (hn : l.length = n + 1) (hl : l.length ≤ 10000000) :
    Calls Tryz.prog 182 #[.pointer (some ⟨hb, 0, none⟩)] w fun e w' => e = .returned (.iface 103 (el Mo.d l n).val) ∧ ∃ v', MH w' base hb v' (l.take n) ∧ AK hb hb v w w' ∧ v'.ownBlock = v.ownBlock := by
  obtain ⟨g, c, hv, a0, a1, a2⟩ := hm.own.cells (j := n) (by omega)
  subst hv
  have c0 : w.cell? ⟨hb, 0, none⟩ = some (.slice (some ⟨g, 0, none⟩) l.length c) := cell_of_one hm.box
  have f0 : ∀ o, (w.alloc o).frozen? ⟨hb, 0, none⟩ = false := fun o => frozen_of (heapL hm.box ((Below.refl _ _).alloc (Nat.le_refl _) o)) 0
  have hbn : ¬ w.heap.size = hb := fun e => by have := hm.bw; omega
  have hbn2 : ¬ hb = w.heap.size := fun e => by have := hm.bw; omega
  have nc : n ≤ c := Nat.le_trans (by omega) (own_cap hm.own)
  have FIN : Hid (∀ W : World, Below w.heap.size w W → MH (W.setCell ⟨hb, 0, none⟩ (.slice (some ⟨g, 0, none⟩) n c)) base hb (.slice (some ⟨g, 0, none⟩) n c) (l.take n) ∧ AK hb hb (.slice (some ⟨g, 0, none⟩) l.length c) w (W.setCell ⟨hb, 0, none⟩ (.slice (some ⟨g, 0, none⟩) n c))) := Lib.hid (by
    intro W hW
    have ho := own_take (own_below hm.own hW) (show n ≤ l.length by omega)
    have hne : g ≠ hb := fun e => hm.ne (by rw [e]; rfl)
    refine ⟨⟨one_setCell (heapL hm.box hW), ?_, fun g' hg j x hx => ?_, hm.low⟩, (AK.ofBelow hW).setBo _⟩
    · show World.ownsRow _ _ _ _ _ _ _
      rw [mflat_take, List.length_take, Nat.min_eq_left (by omega)]
      exact ownsRow_setCell_other (a := ⟨hb, 0, none⟩) ho (fun e => hne (Option.some.inj (show some g = some hb from e))) _
    · obtain rfl : g = g' := Option.some.inj hg
      exact hm.kind g rfl j x ((hW.cell (p := ⟨g, j, none⟩) (hm.own.lt g rfl).2).symm.trans ((cell_set_ne W ⟨hb, 0, none⟩ ⟨g, j, none⟩ _ hne).symm.trans hx)))
  clear hm
  rw [hn] at c0 FIN ⊢
  rw [hn] at hl
  clear hn
  generalize el Mo.d l n = m at a0 a1 a2 ⊢
  obtain ⟨t, en, i⟩ := m
  simp only at a0 a1 a2
  have n3 : IntKind.i64.wrap (n : Int) = (n : Int) := by rw [IntKind.wrap_i64] <;> omega
  have z0 : (0 : Int) ≤ (n : Int) := by omega
  have z1 : (n : Int) < (n : Int) + 1 := by omega
  have NB : ∀ (p : Addr) (x : Value) (o : Obj), w.cell? p = some x → (w.alloc o).cell? p = some x := fun p x o h => cellL h ((Below.refl _ _).alloc (Nat.le_refl _) o)
  have d0 := fun o => NB _ _ o c0
  have b0 := fun o => NB _ _ o a0
  have b1 := fun o => NB _ _ o a1
  have b2 := fun o => NB _ _ o a2
  clear NB
  go_enter Tryz.func182, Tryz.ntmps182
  go_wp2
  go_region
  go_wp2
  go_region
  go_wp2
  go_ret
  have h1 := FIN.out (w.alloc (.cells #[.int .i64 t, .bool en, .int .i64 i] 103)).drew.drew ((Below.refl _ _).alloc (Nat.le_refl _) _).drew.drew
  exact ⟨rfl, _, h1.1, h1.2, rfl⟩
end Go.Proofs.YtpdfmfkoopdfgaaGreatDoor
end
