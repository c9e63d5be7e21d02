/- LSort, PCompact, LCompact, PRef, LRef3, LPut. -/
import Derived.Test.YtpdfmfkoopdfgaaGreatDoorB35
import Derived.Lib.OwnBridge
import Derived.Shelf.SlSortCmp.Whole1
import Derived.Shelf.SlSortCmp.NoneTotal
import Derived.Test.YtpdfmfkoopdfgaaGreatDoorB09
import Derived.Test.YtpdfmfkoopdfgaaGreatDoorB33
import Derived.Test.YtpdfmfkoopdfgaaGreatDoorB03
import Derived.Test.YtpdfmfkoopdfgaaGreatDoorB17
set_option linter.unusedVariables false
set_option linter.unusedSimpArgs false
section
namespace Go.Proofs.YtpdfmfkoopdfgaaGreatDoor
set_option maxRecDepth 100000
open Go.RowKit Aid Gr Hs LinP HeapP

/-- A graph's slice that a sort of the row g leaves alone. -/
def GOk (w : World) (g : Nat) (x : GSl) : Prop := Arcs w x.A x.l ∧ (0 < x.l.length → ∀ a, x.A = some a → a.block < w.heap.size ∧ a.block ≠ g) ∧ x.l.length ≤ 100000
theorem sortWorld_blk {α : Type} [Inhabited α] (enc : α → Value) (w : World) (g m : Nat) (dk : Array α) (os : Array Obj) {b : Nat} (h1 : b < w.heap.size) (h2 : b ≠ g) : (sortWorld enc w g 0 m dk os).heap[b]? = w.heap[b]? := by
  unfold sortWorld Go.Sort.grow Go.Sort.putRow Go.Sort.mapBlock Go.Sort.ahead
  simp only []
  rw [Array.getElem?_append_left (by simpa using h1), Array.getElem?_modify, if_neg (fun e => h2 e.symm)]
theorem GOk.there {α : Type} [Inhabited α] {w : World} {g : Nat} {x : GSl} (h : GOk w g x) (enc : α → Value) (m : Nat) (dk : Array α) (os : Array Obj) : Arcs (sortWorld enc w g 0 m dk os) x.A x.l := by
  refine ⟨h.1.1, h.1.2.1, fun hp => ?_⟩
  obtain ⟨b, off, hA, hc⟩ := h.1.2.2 hp
  obtain ⟨h1, h2⟩ := h.2.1 hp _ hA
  have hb := sortWorld_blk enc w g m dk os h1 h2
  exact ⟨b, off, hA, fun i a hi => ⟨cell_blk (hc i a hi).1 hb, cell_blk (hc i a hi).2.1 hb, cell_blk (hc i a hi).2.2 hb⟩⟩
abbrev GT (w : World) (g : Nat) : Type := { x : GSl // GOk w g x }
instance (w : World) (g : Nat) : Inhabited (GT w g) := ⟨⟨⟨none, 0, []⟩, ⟨⟨by simp, by simp, by simp⟩, by simp, by simp⟩⟩⟩
theorem call23 : ∀ args w, (callFunc 23 args).run Tryz.prog w = .ok (.enter 23 args) w := fun args w => Gr.callIn Tryz.func23 (by kernel_rfl) rfl args w
def encG {w : World} {g : Nat} (x : GT w g) : Value := x.1.val
def cfG {w : World} {g : Nat} (x y : GT w g) : Int := lexC x.1.l y.1.l
theorem cmpG (w : World) (g n : Nat) : CmpLays1 Tryz.prog 23 #[] (encG (w := w) (g := g)) cfG g 0 n w := fun m os dk hs x y => by
  have h := ends1_any x.1.A x.1.c _ x.1.l y.1.A y.1.c _ y.1.l (sortWorld encG w g 0 m dk os) rfl rfl (x.2.there encG m dk os) (y.2.there encG m dk os) x.2.2.2 y.2.2.2
  exact h
end Go.Proofs.YtpdfmfkoopdfgaaGreatDoor
end
section
namespace Go.Proofs.YtpdfmfkoopdfgaaGreatDoor
set_option maxRecDepth 100000
open Go.RowKit Aid Gr Hs LinP HeapP

/-- What is kept of a list, the element ahead being p. -/
def cptFrom {α : Type} (eq : α → α → Bool) : α → List α → List α
  | _, [] => []
  | p, x :: l => if eq x p then cptFrom eq x l else x :: cptFrom eq x l
def cpt {α : Type} (eq : α → α → Bool) : List α → List α
  | [] => []
  | x :: l => x :: cptFrom eq x l
theorem cptFrom_sub {α : Type} (eq : α → α → Bool) : ∀ (p : α) (l : List α), (cptFrom eq p l).Sublist l
  | _, [] => List.Sublist.slnil
  | p, x :: l => by
    rw [cptFrom]
    split
    · exact (cptFrom_sub eq x l).cons x
    · exact (cptFrom_sub eq x l).cons_cons x
/-- Of graphs in order: what is kept rises, and no graph is lost. -/
theorem cptFrom_rises {α : Type} (f : α → List Arc) (eq : α → α → Bool) (he : ∀ x y, eq x y = true ↔ f x = f y) : ∀ (p : α) (l : List α), (p :: l).Pairwise (fun a b => ¬ LexLt (f b) (f a)) →
    (p :: cptFrom eq p l).Pairwise (fun a b => LexLt (f a) (f b)) ∧ ∀ x ∈ l, ∃ y ∈ p :: cptFrom eq p l, f y = f x
  | p, [], _ => ⟨List.pairwise_singleton _ _, fun x hx => by cases hx⟩
  | p, x :: l, h => by
    have hp := List.pairwise_cons.1 h
    obtain ⟨ih1, ih2⟩ := cptFrom_rises f eq he x l hp.2
    rw [cptFrom]
    by_cases hx : eq x p = true
    · rw [if_pos hx]
      have e := (he x p).1 hx
      have i1 := List.pairwise_cons.1 ih1
      refine ⟨List.pairwise_cons.2 ⟨fun b hb => by rw [← e]; exact i1.1 b hb, i1.2⟩, fun y hy => ?_⟩
      rcases List.mem_cons.1 hy with rfl | hy
      · exact ⟨p, List.mem_cons_self .., e.symm⟩
      · obtain ⟨z, hz, hzy⟩ := ih2 y hy
        rcases List.mem_cons.1 hz with rfl | hz
        · exact ⟨p, List.mem_cons_self .., e.symm.trans hzy⟩
        · exact ⟨z, List.mem_cons_of_mem _ hz, hzy⟩
    · rw [if_neg hx]
      have hne : f x ≠ f p := fun q => hx ((he x p).2 q)
      have hlt : LexLt (f p) (f x) := by
        rcases lexC_cases (f p) (f x) with ⟨_, q⟩ | ⟨_, q⟩ | ⟨_, q⟩
        · exact q
        · exact absurd q.symm hne
        · exact absurd q (hp.1 x (List.mem_cons_self ..))
      refine ⟨List.pairwise_cons.2 ⟨fun b hb => ?_, ih1⟩, fun y hy => ?_⟩
      · rcases List.mem_cons.1 hb with rfl | hb
        · exact hlt
        · exact hlt.trans ((List.pairwise_cons.1 ih1).1 b hb)
      · rcases List.mem_cons.1 hy with rfl | hy
        · exact ⟨y, by simp, rfl⟩
        · obtain ⟨z, hz, hzy⟩ := ih2 y hy
          exact ⟨z, List.mem_cons_of_mem _ hz, hzy⟩
theorem cpt_rises {α : Type} (f : α → List Arc) (eq : α → α → Bool) (he : ∀ x y, eq x y = true ↔ f x = f y) (l : List α) (h : l.Pairwise (fun a b => ¬ LexLt (f b) (f a))) : (cpt eq l).Pairwise (fun a b => LexLt (f a) (f b)) ∧ ∀ g, (∃ x ∈ cpt eq l, f x = g) ↔ ∃ x ∈ l, f x = g := by
  cases l with
  | nil => exact ⟨List.Pairwise.nil, fun g => Iff.rfl⟩
  | cons p l =>
    obtain ⟨h1, h2⟩ := cptFrom_rises f eq he p l h
    refine ⟨h1, fun g => ⟨fun ⟨x, hx, e⟩ => ⟨x, ?_, e⟩, fun ⟨x, hx, e⟩ => ?_⟩⟩
    · rcases List.mem_cons.1 hx with q | q
      · rw [q]; exact List.mem_cons_self ..
      · exact List.mem_cons_of_mem _ ((cptFrom_sub eq p l).subset q)
    · rcases List.mem_cons.1 hx with q | q
      · exact ⟨p, List.mem_cons_self .., by rw [← q]; exact e⟩
      · obtain ⟨z, hz, hzy⟩ := h2 x q
        exact ⟨z, hz, hzy.trans e⟩
/-- Two rising lists of graphs with the same members are one. -/
theorem rises_ext : ∀ {l m : List (List Arc)}, l.Pairwise LexLt → m.Pairwise LexLt → (∀ g, g ∈ l ↔ g ∈ m) → l = m
  | [], [], _, _, _ => rfl
  | [], b :: m, _, _, h => by have := (h b).2 (List.mem_cons_self ..); cases this
  | a :: l, [], _, _, h => by have := (h a).1 (List.mem_cons_self ..); cases this
  | a :: l, b :: m, hl, hm, h => by
    have il := List.pairwise_cons.1 hl
    have im := List.pairwise_cons.1 hm
    have e : a = b := by
      rcases List.mem_cons.1 ((h a).1 (List.mem_cons_self ..)) with q | q
      · exact q
      · rcases List.mem_cons.1 ((h b).2 (List.mem_cons_self ..)) with r | r
        · exact r.symm
        · exact absurd ((il.1 b r).trans (im.1 a q)) (LexLt.irrefl _)
    subst e
    rw [rises_ext il.2 im.2 fun g => ?_]
    constructor
    · intro hg
      rcases List.mem_cons.1 ((h g).1 (List.mem_cons_of_mem _ hg)) with q | q
      · subst q; exact absurd (il.1 g hg) (LexLt.irrefl _)
      · exact q
    · intro hg
      rcases List.mem_cons.1 ((h g).2 (List.mem_cons_of_mem _ hg)) with q | q
      · subst q; exact absurd (im.1 g hg) (LexLt.irrefl _)
      · exact q
end Go.Proofs.YtpdfmfkoopdfgaaGreatDoor
end
section
namespace Go.Proofs.YtpdfmfkoopdfgaaGreatDoor
set_option maxRecDepth 100000
open Go.RowKit Aid Gr Hs LinP HeapP

def GSl.eq (x y : GSl) : Bool := sameB x.l y.l
theorem call27 : ∀ args w, (callFunc 27 args).run Tryz.prog w = .ok (.enter 27 args) w := fun args w => Gr.callIn Tryz.func27 (by kernel_rfl) rfl args w
/-- A row of graphs' slices, the call's own. -/
structure GRow (w : World) (base : Nat) (v : Value) (xs : List GSl) : Prop where
  own : w.ownsRow base 22 1 v xs.length (xs.map GSl.val)
  kind : RowAll IsSl v w
  ok : ∀ x ∈ xs, Arcs w x.A x.l ∧ x.l.length ≤ 1000
theorem arcs_gb {w w2 : World} {v : Value} {A : Option Addr} {l : List Arc} (hr : RowAll IsSl v w) (h : Arcs w A l) (hg : w.grownBy w2 v.ownBlock) : Arcs w2 A l := by
  have := NwOk.grow (n := ⟨A, 0, l, none, 0, []⟩) hr ⟨h, fun q => by simp at q⟩ hg
  exact this.1
theorem GRow.later {w w' : World} {base : Nat} {v : Value} {xs : List GSl} (h : GRow w base v xs) (hb : Below w.heap.size w w') : GRow w' base v xs :=
  ⟨own_below h.own hb, row_below h.kind (fun g hg => (h.own.lt g hg).2) hb, fun x hx => ⟨(h.ok x hx).1.below hb (Nat.le_refl _), (h.ok x hx).2⟩⟩
theorem GRow.cell {w : World} {base : Nat} {v : Value} {xs : List GSl} (h : GRow w base v xs) {j : Nat} {x : GSl} (hj : xs[j]? = some x) : ∃ g c, v = .slice (some ⟨g, 0, none⟩) xs.length c ∧ w.cell? ⟨g, j, none⟩ = some (.slice x.A x.l.length x.c) := by
  have hlt := (List.getElem?_eq_some_iff.1 hj).1
  obtain ⟨g, c, hv⟩ : ∃ g c, v = .slice (some ⟨g, 0, none⟩) xs.length c := by
    rcases h.own.2 with ⟨_, h0⟩ | ⟨g, cap, cur, hv, _⟩
    · omega
    · exact ⟨g, cap, hv⟩
  have hc := World.ownsRow.cells h.own (g := g) (by rw [hv]; rfl) j (.slice x.A x.l.length x.c) (by rw [List.getElem?_map, hj]; rfl)
  exact ⟨g, c, hv, by rw [addr_add] at hc; simpa using hc⟩
theorem cpt_short {α : Type} (eq : α → α → Bool) {xs : List α} (h : xs.length < 2) : cpt eq xs = xs := by
  match xs, h with
  | [], _ => rfl
  | [x], _ => rfl
theorem cpt_step {α : Type} (eq : α → α → Bool) {xs : List α} {k : Nat} {p x : α} (hx : xs[k]? = some x) (h : cpt eq xs = xs.take k ++ cptFrom eq p (xs.drop k)) (hn : eq x p = false) : cpt eq xs = xs.take (k + 1) ++ cptFrom eq x (xs.drop (k + 1)) := by
  obtain ⟨hk, he⟩ := List.getElem?_eq_some_iff.1 hx
  rw [h, List.drop_eq_getElem_cons hk, he, cptFrom, if_neg (by rw [hn]; simp), List.take_succ_eq_append_getElem hk, he]
  simp
theorem LinP_row_below {Pd : Value → Prop} {g n c : Nat} {w w' : World} (h : RowAll Pd (.slice (some ⟨g, 0, none⟩) n c) w) (hl : g < w.heap.size) (hb : Below w.heap.size w w') : RowAll Pd (.slice (some ⟨g, 0, none⟩) n c) w' := row_below h (fun g' hg => by rw [← Option.some.inj hg]; exact hl) hb
theorem zerosS (k : Nat) : ∀ v ∈ (Builtin.zeroCells (Value.slice none 0 0).cells k).toList, v.oneCell' = true ∧ IsSl v := fun v hv => by
  rw [Array.mem_toList_iff] at hv
  unfold Builtin.zeroCells at hv
  obtain ⟨i, _, rfl⟩ := Array.mem_map.1 hv
  simp only [Value.cells]
  show (#[Value.slice none 0 0][i % 1]!).oneCell' = true ∧ IsSl (#[Value.slice none 0 0][i % 1]!)
  rw [Nat.mod_one]; exact ⟨rfl, _, _, _, rfl⟩
theorem zsizeS (k : Nat) : (Builtin.zeroCells (Value.slice none 0 0).cells k).size = k := by
  unfold Builtin.zeroCells; simp [Value.cells]
set_option maxHeartbeats 8000000 in
theorem compact26 (A : Option Addr) (c n : Nat) (xs : List GSl) (w : World) (base : Nat) (hn : n = xs.length) (hl : GRow w base (.slice A n c) xs) (h40 : xs.length ≤ 1000000000000) :
    Calls Tryz.prog 26 #[.slice A n c, .func (.func 27) #[] #[]] w fun e w' => ∃ B d, e = .returned (.slice B (cpt GSl.eq xs).length d) ∧ GRow w' base (.slice B (cpt GSl.eq xs).length d) (cpt GSl.eq xs) ∧ w.grownBy w' (Value.slice A n c).ownBlock := by
  have HN := Lib.hid hn
  have HL := Lib.hid hl
  have nb : n ≤ 1000000000000 := by omega
  have e27 := call27
  clear hn hl h40
  by_cases h2 : n < 2
  · have e := Lib.hid (cpt_short GSl.eq (xs := xs) (by rw [← HN.out]; exact h2))
    have i2 : (n : Int) < 2 := by omega
    go_enter Tryz.func26, Tryz.ntmps26
    go_wp2
    go_ret
    exact ⟨A, c, by rw [e.out, ← HN.out]; rfl, by rw [e.out, ← HN.out]; exact HL.out, gb_refl _ _⟩
  · have i2 : ¬ ((n : Int) < 2) := by omega
    go_enter Tryz.func26, Tryz.ntmps26
    go_wp2
    go_loopw [5] (fun x wr => ∃ (k : Nat) (p : GSl), 0 < k ∧ k ≤ n ∧ x = .int .i64 k ∧ xs[k - 1]? = some p ∧ cpt GSl.eq xs = xs.take k ++ cptFrom GSl.eq p (xs.drop k) ∧ Below w.heap.size w wr) (fun x _ => n - (intOf x).toNat)
    case atStart =>
      have h0 : 0 < xs.length := by rw [← HN.out]; omega
      obtain ⟨p, hp⟩ : ∃ p, xs[0]? = some p := ⟨xs[0], List.getElem?_eq_getElem h0⟩
      refine ⟨1, p, by omega, by omega, rfl, hp, ?_, Below.refl _ _⟩
      cases xs with
      | nil => simp at h0
      | cons x l => simp at hp; subst hp; rfl
    case round =>
      obtain ⟨k, p, k0, kn, rfl, hp, hc, hb⟩ := hrel
      obtain ⟨j, rfl⟩ : ∃ j, k = j + 1 := ⟨k - 1, by omega⟩
      rw [Nat.add_sub_cancel] at hp
      have HP := Lib.hid hp
      have HC := Lib.hid hc
      have HB := Lib.hid hb
      clear hp hc hb
      by_cases hlt : j + 1 < n
      · obtain ⟨x, hx⟩ : ∃ x, xs[j + 1]? = some x := ⟨xs[j + 1]'(by rw [← HN.out]; exact hlt), List.getElem?_eq_getElem _⟩
        have hrow := HL.out.later HB.out
        obtain ⟨g, c2, hv, c0⟩ := hrow.cell hx
        obtain ⟨g', c3, hv2, c1⟩ := hrow.cell HP.out
        injection hv with hA e1 e2
        injection hv2 with hA2 e3 e4
        clear e1 e2 e3 e4
        subst hA
        injection hA2 with hA2
        injection hA2 with hA2
        subst hA2
        have HX := Lib.hid hx
        have ax := hrow.ok x (List.mem_of_getElem? hx)
        have ap := hrow.ok p (List.mem_of_getElem? HP.out)
        have AX := Lib.hid ax.1
        have AP := Lib.hid ap.1
        have LX := Lib.hid ax.2
        clear hx hrow ax ap
        have j0 : (0 : Int) ≤ (j : Int) := by omega
        have j1 : (j : Int) < (n : Int) := by omega
        have j2 : (0 : Int) ≤ (j : Int) + 1 := by omega
        have j3 : (j : Int) + 1 < (n : Int) := by omega
        have jw : IntKind.i64.wrap (j : Int) = (j : Int) := by rw [IntKind.wrap_i64] <;> omega
        have jw2 : IntKind.i64.wrap ((j : Int) + 1 + 1) = (j : Int) + 1 + 1 := by rw [IntKind.wrap_i64] <;> omega
        have DS : Hid (∀ W : World, Below wr.heap.size wr W → Calls Tryz.prog 27 #[.slice x.A x.l.length x.c, .slice p.A p.l.length p.c] W fun e w' => e = .returned (.bool (GSl.eq x p)) ∧ Below W.heap.size W w') := Lib.hid fun W hW => same_any x.A p.A x.c p.c _ _ x.l p.l W rfl rfl (AX.out.below hW (Nat.le_refl _)) (AP.out.below hW (Nat.le_refl _)) LX.out
        have SS : Hid (wr.drew.cell? ⟨g, j + 1, none⟩ = some (.slice x.A x.l.length x.c) ∧ wr.drew.cell? ⟨g, j, none⟩ = some (.slice p.A p.l.length p.c) ∧ Below wr.heap.size wr wr.drew) := Lib.hid ⟨c0, c1, (Below.refl _ _).drew⟩
        have KK : Hid (∀ W : World, Below wr.heap.size wr W → W.cell? ⟨g, j + 1, none⟩ = some (.slice x.A x.l.length x.c) ∧ W.cell? ⟨g, j, none⟩ = some (.slice p.A p.l.length p.c) ∧ Below wr.heap.size wr W) := Lib.hid fun W h => ⟨cellL c0 h, cellL c1 h, h⟩
        obtain ⟨r, hr⟩ : ∃ r, GSl.eq x p = r := ⟨_, rfl⟩
        rw [hr] at DS
        have HR := Lib.hid hr
        clear hr
        cases r
        · go_wp2_with (fail)
          go_region_held3 (fun W => W.cell? ⟨g, j + 1, none⟩ = some (.slice x.A x.l.length x.c) ∧ W.cell? ⟨g, j, none⟩ = some (.slice p.A p.l.length p.c) ∧ Below wr.heap.size wr W)
            (first | (with_reducible exact SS.out) | (with_reducible assumption))
            (first | (go_at_fn 27; ((with_reducible refine (DS.out _ SS.out.2.2).mono ?_); rintro e w2 ⟨rfl, hb2⟩; have HB2 := Lib.hid (SS.out.2.2.trans (hb2.mono SS.out.2.2.size)); have hkk := KK.out _ HB2.out; clear hb2)))
          go_wp2
          refine ⟨⟨j + 1 + 1, x, by omega, by omega, by go_num, HX.out, cpt_step GSl.eq HX.out HC.out HR.out, HB.out.trans (HB2.out.mono HB.out.size)⟩, ?_⟩
          simp [intOf]; omega
        · have nc : n ≤ c := by
            have := HL.out.own
            rw [← HN.out] at this
            exact own_cap this
          obtain ⟨m, rfl⟩ : ∃ m, n = j + 1 + m := ⟨n - (j + 1), by omega⟩
          have m0 : 0 < m := by omega
          have j5 : (j : Int) < (j : Int) + 1 + (m : Int) := by omega
          have j6 : (j : Int) + 1 < (j : Int) + 1 + (m : Int) := by omega
          have c1' : ¬ (c = j + 1) := by omega
          have c2' : j + 1 ≤ j + 1 + m := by omega
          have ST : Hid (xs.take (j + 1) ++ cptFrom GSl.eq x (xs.drop (j + 1 + 0 + 1)) = cpt GSl.eq xs) := Lib.hid (by
            obtain ⟨hk, he⟩ := List.getElem?_eq_some_iff.1 HX.out
            rw [HC.out, List.drop_eq_getElem_cons hk, he, cptFrom, if_pos HR.out])
          go_wp2_with (fail)
          go_region_held3 (fun W => W.cell? ⟨g, j + 1, none⟩ = some (.slice x.A x.l.length x.c) ∧ W.cell? ⟨g, j, none⟩ = some (.slice p.A p.l.length p.c) ∧ Below wr.heap.size wr W)
            (first | (with_reducible exact SS.out) | (with_reducible assumption))
            (first | (go_at_fn 27; ((with_reducible refine (DS.out _ SS.out.2.2).mono ?_); rintro e w2 ⟨rfl, hb2⟩; have HB2 := Lib.hid (SS.out.2.2.trans (hb2.mono SS.out.2.2.size)); have hkk := KK.out _ HB2.out; clear hb2)))
          clear hkk c0 c1 DS SS KK
          have HW2 := Lib.hid (HL.out.later (HB.out.trans (HB2.out.mono HB.out.size)))
          have GW2 := Lib.hid (HB.out.trans (HB2.out.mono HB.out.size))
          go_wp2
          go_loopw [5, 7] (fun x5 x7 wi => ∃ (r k : Nat) (M : List GSl) (q : GSl), x5 = .int .i64 k ∧ x7 = .int .i64 ((r : Int) + 1) ∧ r + 1 ≤ m ∧ k ≤ j + 1 + r ∧ M.length = j + 1 + m ∧ xs[j + 1 + r]? = some q ∧ M.take k ++ cptFrom GSl.eq q (xs.drop (j + 1 + r + 1)) = cpt GSl.eq xs ∧ M.drop (j + 1 + r) = xs.drop (j + 1 + r) ∧ wi.ownsRow base 22 1 (.slice (some ⟨g, 0, none⟩) (j + 1 + m) c) (j + 1 + m) (M.map GSl.val) ∧ RowAll IsSl (.slice (some ⟨g, 0, none⟩) (j + 1 + m) c) wi ∧ (∀ x ∈ xs, Arcs wi x.A x.l ∧ x.l.length ≤ 1000) ∧ w.grownBy wi (some g)) (fun _ x7 _ => m - (intOf x7).toNat)
          case atStart =>
            have ho := HW2.out.own
            rw [← HN.out] at ho
            exact ⟨0, j + 1, xs, x, by go_num, by go_num, by omega, by omega, HN.out.symm, HX.out, ST.out, rfl, ho, HW2.out.kind, HW2.out.ok, gb_below _ GW2.out⟩
          case round =>
            clear HX HP HC ST HW2 GW2 HB2 HB AX AP LX HR
            obtain ⟨r, k, M, q, rfl, rfl, hr, hk, hml, hq, hc, hd, ho, hkd, hok, hgb⟩ := hrel
            have HML := Lib.hid hml
            have HQ := Lib.hid hq
            have HC := Lib.hid hc
            have HD := Lib.hid hd
            have HO := Lib.hid ho
            have HKD := Lib.hid hkd
            have HOK := Lib.hid hok
            have HGB := Lib.hid hgb
            clear hml hq hc hd ho hkd hok hgb
            obtain ⟨wi, hwi⟩ : ∃ wi, wi = wr := ⟨_, rfl⟩
            subst hwi
            have kz : IntKind.i64.wrap ((k : Int) + 1) = (k : Int) + 1 := by rw [IntKind.wrap_i64] <;> omega
            have rz : IntKind.i64.wrap ((r : Int) + 1 + 1) = (r : Int) + 1 + 1 := by rw [IntKind.wrap_i64] <;> omega
            have rw' : IntKind.i64.wrap (r : Int) = (r : Int) := by rw [IntKind.wrap_i64] <;> omega
            by_cases hlt : r + 1 < m
            · obtain ⟨y, hy⟩ : ∃ y, xs[j + 1 + (r + 1)]? = some y := ⟨xs[j + 1 + (r + 1)]'(by rw [← HN.out]; omega), List.getElem?_eq_getElem _⟩
              have HY := Lib.hid hy
              have hMy : M[j + 1 + (r + 1)]? = some y := by
                have h1 : (M.drop (j + 1 + r))[1]? = (xs.drop (j + 1 + r))[1]? := by rw [HD.out]
                rw [List.getElem?_drop, List.getElem?_drop] at h1
                rw [show j + 1 + (r + 1) = j + 1 + r + 1 by omega] at hy ⊢
                rw [h1]; exact hy
              have hMq : M[j + 1 + r]? = some q := by
                have h1 : (M.drop (j + 1 + r))[0]? = (xs.drop (j + 1 + r))[0]? := by rw [HD.out]
                rw [List.getElem?_drop, List.getElem?_drop] at h1
                rw [Nat.add_zero] at h1
                rw [h1]; exact HQ.out
              have hcs := World.ownsRow.cells HO.out (g := g) rfl
              have d0 : wi.cell? ⟨g, j + 1 + (r + 1), none⟩ = some (.slice y.A y.l.length y.c) := by
                have := hcs _ (GSl.val y) (by rw [List.getElem?_map, hMy]; rfl); rw [addr_add, Nat.zero_add] at this; exact this
              have d1 : wi.cell? ⟨g, j + 1 + r, none⟩ = some (.slice q.A q.l.length q.c) := by
                have := hcs _ (GSl.val q) (by rw [List.getElem?_map, hMq]; rfl); rw [addr_add, Nat.zero_add] at this; exact this
              have ay := HOK.out y (List.mem_of_getElem? hy)
              have aq := HOK.out q (List.mem_of_getElem? HQ.out)
              have AY := Lib.hid ay.1
              have AQ := Lib.hid aq.1
              have LY := Lib.hid ay.2
              have HTH := Lib.hid (there_own HO.out)
              obtain ⟨v0, hv0⟩ := Option.isSome_iff_exists.1 (HTH.out k (by omega)).1
              have fz := (HTH.out k (by omega)).2
              rw [Nat.zero_add] at hv0 fz
              have glt : g < wi.heap.size := World.block_lt_of_cell? _ _ d0
              have r0 : (0 : Int) ≤ (r : Int) := by omega
              have r1 : (r : Int) < (m : Int) := by omega
              have r2 : (0 : Int) ≤ (r : Int) + 1 := by omega
              have r3 : (r : Int) + 1 < (m : Int) := by omega
              have k0' : (0 : Int) ≤ (k : Int) := by omega
              have k1' : (k : Int) < ((j + 1 + m : Nat) : Int) := by omega
              have k2' : (k : Int) < (j : Int) + 1 + (m : Int) := by omega
              have DS : Hid (∀ W : World, Below wi.heap.size wi W → Calls Tryz.prog 27 #[.slice y.A y.l.length y.c, .slice q.A q.l.length q.c] W fun e w' => e = .returned (.bool (GSl.eq y q)) ∧ Below W.heap.size W w') := Lib.hid fun W hW => same_any y.A q.A y.c q.c _ _ y.l q.l W rfl rfl (AY.out.below hW (Nat.le_refl _)) (AQ.out.below hW (Nat.le_refl _)) LY.out
              have KK : Hid (∀ W : World, Below wi.heap.size wi W → W.cell? ⟨g, j + 1 + (r + 1), none⟩ = some (.slice y.A y.l.length y.c) ∧ W.cell? ⟨g, j + 1 + r, none⟩ = some (.slice q.A q.l.length q.c) ∧ Below wi.heap.size wi W) := Lib.hid fun W h => ⟨cellL d0 h, cellL d1 h, h⟩
              have SS := Lib.hid (KK.out _ (Below.refl _ _).drew)
              have CX : Hid (xs.drop (j + 1 + r + 1) = y :: xs.drop (j + 1 + (r + 1) + 1)) := Lib.hid (by
                obtain ⟨h1, h2⟩ := List.getElem?_eq_some_iff.1 HY.out
                rw [show j + 1 + r + 1 = j + 1 + (r + 1) by omega, List.drop_eq_getElem_cons h1, h2])
              clear hy hMy hMq hcs ay aq
              obtain ⟨eb, heb⟩ : ∃ eb, GSl.eq y q = eb := ⟨_, rfl⟩
              rw [heb] at DS
              have HEB := Lib.hid heb
              clear heb
              cases eb
              · go_wp2_with (fail)
                go_region_held3 (fun W => W.cell? ⟨g, j + 1 + (r + 1), none⟩ = some (.slice y.A y.l.length y.c) ∧ W.cell? ⟨g, j + 1 + r, none⟩ = some (.slice q.A q.l.length q.c) ∧ Below wi.heap.size wi W)
                  (first | (with_reducible exact SS.out) | (with_reducible assumption))
                  (first | (go_at_fn 27; ((with_reducible refine (DS.out _ SS.out.2.2).mono ?_); rintro e w3 ⟨rfl, hb3⟩; have HB3 := Lib.hid (SS.out.2.2.trans (hb3.mono SS.out.2.2.size)); have hkk := KK.out _ HB3.out; clear hb3)))
                have x0 := hkk.1
                have x1 := cellL hv0 HB3.out
                have x2 : w3.frozen? ⟨g, k, none⟩ = false := by rw [World.frozen?_of_block (w := wi) (a := ⟨g, k, none⟩) (HB3.out.block g glt)]; exact fz
                clear hkk
                go_wp2
                refine ⟨⟨r + 1, k + 1, M.set k y, y, by go_num, by go_num, by omega, by omega, by rw [List.length_set]; exact HML.out, HY.out, ?_, ?_, ?_, ?_, fun z hz => ?_, ?_⟩, ?_⟩
                · have hkl : k < M.length := by have := HML.out; omega
                  rw [set_take _ _ _ hkl, ← HC.out, CX.out, cptFrom, if_neg (by rw [HEB.out]; simp)]
                  simp
                · rw [set_drop _ _ _ _ (by omega)]
                  have h1 := congrArg (List.drop 1) HD.out
                  rw [List.drop_drop, List.drop_drop] at h1
                  exact h1
                · rw [List.map_set]
                  exact own_set (own_below HO.out HB3.out) k _
                · exact (LinP_row_below HKD.out glt HB3.out).set _ ⟨_, _, _, rfl⟩
                · have h3 := (HOK.out z hz)
                  exact ⟨arcs_gb (v := .slice (some ⟨g, 0, none⟩) (j + 1 + m) c) (LinP_row_below HKD.out glt HB3.out) (h3.1.below HB3.out (Nat.le_refl _)) (gb_set (gb_refl _ _) _ _), h3.2⟩
                · exact gb_set (gb_trans HGB.out (gb_below _ HB3.out)) _ _
                · simp [intOf]; omega
              · go_wp2_with (fail)
                go_region_held3 (fun W => W.cell? ⟨g, j + 1 + (r + 1), none⟩ = some (.slice y.A y.l.length y.c) ∧ W.cell? ⟨g, j + 1 + r, none⟩ = some (.slice q.A q.l.length q.c) ∧ Below wi.heap.size wi W)
                  (first | (with_reducible exact SS.out) | (with_reducible assumption))
                  (first | (go_at_fn 27; ((with_reducible refine (DS.out _ SS.out.2.2).mono ?_); rintro e w3 ⟨rfl, hb3⟩; have HB3 := Lib.hid (SS.out.2.2.trans (hb3.mono SS.out.2.2.size)); have hkk := KK.out _ HB3.out; clear hb3)))
                clear hkk
                go_wp2
                refine ⟨⟨r + 1, k, M, y, rfl, by go_num, by omega, by omega, HML.out, HY.out, ?_, ?_, own_below HO.out HB3.out, LinP_row_below HKD.out glt HB3.out, fun z hz => ⟨(HOK.out z hz).1.below HB3.out (Nat.le_refl _), (HOK.out z hz).2⟩, gb_trans HGB.out (gb_below _ HB3.out)⟩, ?_⟩
                · rw [← HC.out, CX.out, cptFrom, if_pos HEB.out]
                · have h1 := congrArg (List.drop 1) HD.out
                  rw [List.drop_drop, List.drop_drop] at h1
                  exact h1
                · simp [intOf]; omega
            · obtain rfl : m = r + 1 := by omega
              obtain ⟨nn, hnn⟩ : ∃ nn, nn = j + 1 + (r + 1) := ⟨_, rfl⟩
              have kn : k < nn := by omega
              have hkc : ¬ (c = k) := by omega
              have hkcc : k ≤ c := by omega
              have hkl : k ≤ j + 1 + (r + 1) := by omega
              have hz := Lib.hid (zsizeS (j + 1 + (r + 1) - k))
              have hcl : ∀ ty, (Builtin.clear_ #[27] ty #[.slice (some ⟨g, k, none⟩) (j + 1 + (r + 1) - k) (c - k)]).run Tryz.prog wi = .ok (.tuple #[]) (wi.setCells g k (Builtin.zeroCells (Value.slice none 0 0).cells (j + 1 + (r + 1) - k)).toList) := fun ty =>
                run_clear_k wi 27 22 ty _ Tryz.underlying27 Tryz.zeroValue22 g k (j + 1 + (r + 1) - k) (c - k) (by omega) (there_sub (there_own HO.out) (by omega) (by rw [Array.length_toList, hz.out]; omega)) (fun v hv => (zerosS _ v hv).1)
              have ZS : Hid (∀ v ∈ (Builtin.zeroCells (Value.slice none 0 0).cells (j + 1 + (r + 1) - k)).toList, IsSl v) := Lib.hid fun v hv => (zerosS _ v hv).2
              generalize (Builtin.zeroCells (Value.slice none 0 0).cells (j + 1 + (r + 1) - k)).toList = zs at hcl ZS
              have HE : Hid (cpt GSl.eq xs = M.take k) := Lib.hid (by
                rw [← HC.out, List.drop_eq_nil_of_le (by rw [← HN.out]; omega)]
                simp [cptFrom])
              have k0' : (0 : Int) ≤ (k : Int) := by omega
              have k1' : (k : Int) ≤ ((j + 1 + (r + 1) : Nat) : Int) := by omega
              have k2' : (k : Int) ≤ (c : Int) := by omega
              clear hnn
              go_wp2
              go_ret
              have hlen : (cpt GSl.eq xs).length = k := by rw [HE.out, List.length_take]; have := HML.out; omega
              have ho2 := own_take HO.out hkl
              rw [Nat.mul_one, ← List.map_take, ← HE.out] at ho2
              refine ⟨some ⟨g, 0, none⟩, c, by rw [hlen]; rfl, ⟨?_, ?_, fun z hz => ?_⟩, gb_sets _ _ _ HGB.out⟩
              · rw [hlen]
                exact own_sets _ _ _ (by omega) ho2
              · have := row_sets (g := g) zs k wi ZS.out HKD.out
                exact fun g' hg' => this g' (by rw [← hg']; rfl)
              · have hmem : z ∈ xs := by
                  cases xs with
                  | nil => simp [cpt] at hz
                  | cons a l =>
                    rcases List.mem_cons.1 hz with h | h
                    · rw [h]; exact List.mem_cons_self ..
                    · exact List.mem_cons_of_mem _ ((cptFrom_sub GSl.eq a l).subset h)
                exact ⟨arcs_gb HKD.out (HOK.out z hmem).1 (gb_sets _ _ _ (gb_refl _ _)), (HOK.out z hmem).2⟩
      · obtain rfl : j + 1 = n := by omega
        have hc : cpt GSl.eq xs = xs := by
          rw [HC.out, List.drop_eq_nil_of_le (by rw [← HN.out]; exact Nat.le_refl _), List.take_of_length_le (by rw [← HN.out]; exact Nat.le_refl _)]
          simp [cptFrom]
        have e := Lib.hid hc
        have HL2 := Lib.hid (HL.out.later HB.out)
        clear hc
        go_wp2
        go_ret
        exact ⟨A, c, by rw [e.out, ← HN.out]; rfl, by rw [e.out, ← HN.out]; exact HL2.out, gb_below _ HB.out⟩
end Go.Proofs.YtpdfmfkoopdfgaaGreatDoor
end
section
namespace Go.Proofs.YtpdfmfkoopdfgaaGreatDoor
set_option maxRecDepth 100000
open Go.RowKit Aid Gr Hs LinP HeapP
section
variable {G : Type} {S : LinP.Sys G}
/-! ### few graphs -/
/-- A word of turners leads to a graph. -/
structure CodedW (S : LinP.Sys G) (N : Nat) (c : Int → Nat) (g : G) (w : List Nat) (g' : G) : Prop where
  mem : ∀ i ∈ w, i < S.n ∧ S.turn i = true
  pos : ∀ (k i : Nat), w[k]? = some i → c (S.fr i) = k
  abs : ∀ i, i < S.n → S.turn i = true → i ∉ w → c (S.fr i) = N
  low : w.length ≤ N
  at' : g' = gAt S g w w.length
theorem CodedW.word {N : Nat} {c c' : Int → Nat} {g g' : G} {w w' : List Nat} {x x' : G} (h : CodedW S N c g w x) (h' : CodedW S N c' g' w' x') (hc : ∀ i, i < S.n → c (S.fr i) = c' (S.fr i)) : w = w' := by
  have one : ∀ {c c' : Int → Nat} {g g' : G} {w w' : List Nat} {x x' : G}, CodedW S N c g w x → CodedW S N c' g' w' x' → (∀ i, i < S.n → c (S.fr i) = c' (S.fr i)) → ∀ (k i : Nat), w[k]? = some i → w'[k]? = some i := by
    intro c c' g g' w w' x x' h h' hc k i hk
    have hm := h.mem i (List.mem_of_getElem? hk)
    have hp := h.pos k i hk
    have hlt := (List.getElem?_eq_some_iff.1 hk).1
    have hlow := h.low
    by_cases hi : i ∈ w'
    · obtain ⟨j, hj, he⟩ := List.getElem_of_mem hi
      have h2 := h'.pos j i (by rw [List.getElem?_eq_getElem hj, he])
      rw [hc i hm.1] at hp
      have : k = j := by omega
      subst this
      rw [List.getElem?_eq_getElem hj, he]
    · have h2 := h'.abs i hm.1 hm.2 hi
      rw [hc i hm.1] at hp
      omega
  apply List.ext_getElem?
  intro k
  cases hk : w[k]? with
  | some i => exact (one h h' hc k i hk).symm
  | none =>
    cases hk' : w'[k]? with
    | none => rfl
    | some i =>
      have := one h' h (fun i hi => (hc i hi).symm) k i hk'
      rw [hk] at this; cases this
theorem CodedW.nodup {N : Nat} {c : Int → Nat} {g : G} {w : List Nat} {x : G} (h : CodedW S N c g w x) : w.Nodup := by
  rw [List.nodup_iff_pairwise_ne, List.pairwise_iff_getElem]
  intro i j hi hj hij e
  have h1 := h.pos i _ (List.getElem?_eq_getElem hi)
  have h2 := h.pos j _ (List.getElem?_eq_getElem hj)
  rw [← e] at h2
  omega
theorem CodedW.congr {N : Nat} {c c' : Int → Nat} {g : G} {w : List Nat} {x : G} (h : CodedW S N c g w x) (hc : ∀ i, i < S.n → c' (S.fr i) = c (S.fr i)) : CodedW S N c' g w x :=
  ⟨h.mem, fun k i hk => (hc i (h.mem i (List.mem_of_getElem? hk)).1).trans (h.pos k i hk), fun i hi ht hw => (hc i hi).trans (h.abs i hi ht hw), h.low, h.at'⟩
/-- What steps lead to is told by a word. -/
theorem stepsCoded {N : Nat} (hS : CSys S N) {g0 g g' : G} {d d' : List Bool} (h : LinP.Steps S g d g' d') (hl : d.length = S.n) : ∀ {c : Int → Nat} {w : List Nat}, (∀ f, c f ≤ N) → CodedW S N c g0 w g → (∀ i ∈ w, isD d i = true) → ∃ c' w', (∀ f, c' f ≤ N) ∧ (∀ f, (∀ i, i < S.n → S.fr i ≠ f) → c' f = c f) ∧ CodedW S N c' g0 w' g' := by
  induction h with
  | refl => intro c w hc hw _; exact ⟨c, w, hc, fun _ _ => rfl, hw⟩
  | @step g d g' d' i h1 h2 h3 h4 _ ih =>
    intro c w hc hw hd
    have hl' : (d.set i true).length = S.n := by rw [List.length_set]; exact hl
    have hk : ∀ j, isD d j = true → isD (d.set i true) j = true := fun j hj => by
      rw [isD_set (by omega)]
      split
      · rfl
      · exact hj
    cases ht : S.turn i
    · rw [hS.good.still i g h1 ht] at ih
      exact ih hl' hc hw (fun j hj => hk j (hd j hj))
    · have hiw : i ∉ w := fun q => by rw [hd i q] at h2; cases h2
      have hne : ∀ j, j < S.n → j ≠ i → S.fr j ≠ S.fr i := fun j hj hji e => hji (hS.uniq i j h1 hj ht e.symm).symm
      have hN : w.length < N := by
        have := hS.words (i :: w) (List.nodup_cons.2 ⟨hiw, hw.nodup⟩) (fun j hj => by
          rcases List.mem_cons.1 hj with rfl | hj
          · exact ⟨h1, ht⟩
          · exact hw.mem j hj)
        rw [List.length_cons] at this; omega
      have hcw : CodedW S N (fun f => if f = S.fr i then w.length else c f) g0 (w ++ [i]) (S.nx i g) := by
        refine ⟨fun j hj => ?_, fun k j hk => ?_, fun j hj hjt hjw => ?_, by simp; omega, ?_⟩
        · rcases List.mem_append.1 hj with q | q
          · exact hw.mem j q
          · rw [List.mem_singleton] at q; subst q; exact ⟨h1, ht⟩
        · rcases Nat.lt_or_ge k w.length with q | q
          · rw [List.getElem?_append_left q] at hk
            have hj := List.mem_of_getElem? hk
            show (if _ then _ else _) = _
            rw [if_neg (hne j (hw.mem j hj).1 (fun e => by subst e; exact hiw hj))]
            exact hw.pos k j hk
          · rw [List.getElem?_append_right q] at hk
            have hz : k - w.length = 0 := by
              have := (List.getElem?_eq_some_iff.1 hk).1
              simp at this; omega
            rw [hz] at hk
            simp at hk
            subst hk
            show (if _ then _ else _) = _
            rw [if_pos rfl]; omega
        · rw [List.mem_append, List.mem_singleton] at hjw
          show (if _ then _ else _) = _
          rw [if_neg (hne j hj (fun e => hjw (.inr e)))]
          exact hw.abs j hj hjt (fun q => hjw (.inl q))
        · have e : (w ++ [i]).length = w.length + 1 := by simp
          rw [e, gAt_last, ← hw.at']
      have hdd : ∀ j ∈ w ++ [i], isD (d.set i true) j = true := fun j hj => by
        rcases List.mem_append.1 hj with q | q
        · exact hk j (hd j q)
        · rw [List.mem_singleton] at q; subst q
          rw [isD_set (by omega), if_pos rfl]
      obtain ⟨c', w', q1, q2, q3⟩ := ih hl' (c := fun f => if f = S.fr i then w.length else c f) (w := w ++ [i]) (fun f => by
        show (if _ then _ else _) ≤ _
        split
        · omega
        · exact hc f) hcw hdd
      exact ⟨c', w', q1, fun f hf => (q2 f hf).trans (if_neg (fun e => hf i h1 e.symm)), q3⟩
end
/-- The graphs that the eras ahead lead to, and the points that are left. -/
inductive Pre (ps0 : List Pt) (g0 : List Arc) : List Pt → List Arc → Prop
  | start : Pre ps0 g0 ps0 g0
  | era {ps : List Pt} {g m : List Arc} : Pre ps0 g0 ps g → ps ≠ [] → LinP.Ord (sysOf (ps.take (eraLen ps))) g m → Pre ps0 g0 (ps.drop (eraLen ps)) m
theorem Pre.chain {ps0 : List Pt} {g0 : List Arc} {ps : List Pt} {g : List Arc} (h : Pre ps0 g0 ps g) : ∀ {g'}, Chain ps g g' → Chain ps0 g0 g' := by
  induction h with
  | start => exact fun h => h
  | era _ hps ho ih => exact fun hc => ih (.era hps ho hc)
/-- Graphs between eras are few: there is a code for each stage. -/
structure BaseP (fs : List Int) (ps : List Pt) (P : List Arc → Prop) (Bs : (Int → Nat) → List Arc → Prop) : Prop where
  stay : ∀ c c' g, Bs c g → (∀ f, (∀ p ∈ ps, p.fr ≠ f) → c' f = c f) → Bs c' g
  one : ∀ c c' g g', Bs c g → Bs c' g' → (∀ f ∈ fs, c f = c' f) → g = g'
  all : ∀ g, P g → ∃ c, (∀ f, c f ≤ 9) ∧ Bs c g
/-- The stages of all eras: which points are left. -/
inductive Stage (ps0 : List Pt) : List Pt → Prop
  | start : Stage ps0 ps0
  | era {ps : List Pt} : Stage ps0 ps → ps ≠ [] → Stage ps0 (ps.drop (eraLen ps))
theorem Stage.tail {ps0 ps : List Pt} (h : Stage ps0 ps) : ps.Sublist ps0 := by
  induction h with
  | start => exact List.Sublist.refl _
  | era _ _ ih => exact (List.drop_sublist _ _).trans ih
theorem code_next {fs : List Int} {ps : List Pt} (hsub : PsGood ps fs) (hps : ps ≠ []) {P : List Arc → Prop} {Bs : (Int → Nat) → List Arc → Prop} (hB : BaseP fs ps P Bs) :
    ∃ Bs', BaseP fs (ps.drop (eraLen ps)) (fun m => ∃ g, P g ∧ LinP.Ord (sysOf (ps.take (eraLen ps))) g m) Bs' := by
  have hS := (hsub.sub (List.take_sublist (eraLen ps) ps)).csys
  refine ⟨fun c m => ∃ g w, Bs c g ∧ CodedW (sysOf (ps.take (eraLen ps))) 9 c g w m, fun c c' m => ?_, fun c c' m m' => ?_, fun m => ?_⟩
  · rintro ⟨g, w, h2, h3⟩ hc
    refine ⟨g, w, hB.stay c c' g h2 (fun f hf => hc f fun p hp => hf p (List.mem_of_mem_drop hp)), h3.congr (fun i hi => hc _ fun q hq e => ?_)⟩
    exact hsub.split hps _ (ptAt_mem hi) q hq e.symm
  · rintro ⟨g1, w, h2, h3⟩ ⟨g1', w', h2', h3'⟩ hc
    obtain rfl := hB.one _ _ _ _ h2 h2' hc
    have hfr : ∀ i, i < (sysOf (ps.take (eraLen ps))).n → c ((sysOf (ps.take (eraLen ps))).fr i) = c' ((sysOf (ps.take (eraLen ps))).fr i) := fun i hi => hc _ (hsub.times _ (List.mem_of_mem_take (ptAt_mem hi)))
    obtain rfl := h3.word h3' hfr
    rw [h3.at', h3'.at']
  · rintro ⟨g, hg, d, hst, _⟩
    classical
    obtain ⟨c, hc, hb⟩ := hB.all g hg
    let c1 : Int → Nat := fun f => if ∃ i, i < (sysOf (ps.take (eraLen ps))).n ∧ (sysOf (ps.take (eraLen ps))).fr i = f then 9 else c f
    have hc1 : ∀ f, c1 f ≤ 9 := fun f => by
      show (if _ then _ else _) ≤ _
      split
      · exact Nat.le_refl _
      · exact hc f
    have hc2 : ∀ f, (∀ p ∈ ps, p.fr ≠ f) → c1 f = c f := fun f hf => if_neg (fun ⟨i, hi, e⟩ => hf _ (List.mem_of_mem_take (ptAt_mem hi)) e)
    have hw0 : CodedW (sysOf (ps.take (eraLen ps))) 9 c1 g [] g := ⟨fun i q => (by cases q), fun k i q => (by simp at q), fun i hi _ _ => if_pos ⟨i, hi, rfl⟩, Nat.zero_le _, rfl⟩
    obtain ⟨c', w', q1, q2, q3⟩ := stepsCoded hS hst (List.length_replicate ..) hc1 hw0 (fun i q => by cases q)
    refine ⟨c', q1, g, w', hB.stay c c' g hb (fun f hf => ?_), q3⟩
    rw [q2 f (fun i hi => hf _ (List.mem_of_mem_take (ptAt_mem hi))), hc2 f hf]
theorem few_graphs {fs : List Int} {ps : List Pt} {P : List Arc → Prop} {Bs : (Int → Nat) → List Arc → Prop} (hB : BaseP fs ps P Bs) (hf : fs.length ≤ 9) (l : List (List Arc)) (hl : l.Nodup) (h : ∀ g ∈ l, P g) : l.length ≤ 1000000000000 := by
  classical
  obtain ⟨C, hC⟩ : ∃ C : List Arc → (Int → Nat), ∀ g ∈ l, (∀ f, C g f ≤ 9) ∧ Bs (C g) g :=
    ⟨fun g => if q : g ∈ l then (hB.all g (h g q)).choose else fun _ => 0, fun g hg => by
      have := (hB.all g (h g hg)).choose_spec
      simp only [dif_pos hg]
      exact this⟩
  have h1 : l.length ≤ (9 + 1) ^ fs.length := by
    refine few_lists fs.length 9 l (fun s => fs.map (C s)) hl (fun s hs t ht e => ?_) (fun s hs => ⟨by simp, fun x hx => ?_⟩)
    · have he : ∀ f ∈ fs, C s f = C t f := fun f hf => by
        obtain ⟨k, hk, hkf⟩ := List.getElem_of_mem hf
        have := congrArg (fun l => l[k]?) e
        simp only [List.getElem?_map, List.getElem?_eq_getElem hk, Option.map_some, hkf] at this
        exact Option.some.inj this
      exact hB.one _ _ _ _ (hC s hs).2 (hC t ht).2 he
    · obtain ⟨f, _, rfl⟩ := List.mem_map.1 hx
      exact (hC s hs).1 f
  have h2 : (9 + 1) ^ fs.length ≤ (9 + 1) ^ 9 := Nat.pow_le_pow_right (by omega) hf
  have h3 : (9 + 1) ^ 9 ≤ 1000000000000 := by decide
  exact Nat.le_trans h1 (Nat.le_trans h2 h3)
/-! ### the row of graphs found -/
/-- A graph put where it belongs, if it isn't in. -/
def putG (l : List (List Arc)) (g : List Arc) : List (List Arc) := match l with
  | [] => [g]
  | x :: r => if lexC g x = 0 then x :: r else if lexC g x < 0 then g :: x :: r else x :: putG r g
theorem lex_nodup {l : List (List Arc)} (h : l.Pairwise LexLt) : l.Nodup := h.imp fun {a b} hab e => by subst e; exact LexLt.irrefl _ hab
end Go.Proofs.YtpdfmfkoopdfgaaGreatDoor
end
section
namespace Go.Proofs.YtpdfmfkoopdfgaaGreatDoor
set_option maxRecDepth 100000
open Go.RowKit Aid Gr Hs LinP HeapP

/-! ### plain -/
/-- How two graphs lie, told by a number's sign. -/
def LiesAs (c : Int) (l m : List Arc) : Prop := (c < 0 ∧ LexLt l m) ∨ (c = 0 ∧ l = m) ∨ (0 < c ∧ LexLt m l)
/-! ### the walks -/
instance (a b : Arc) : Decidable (RowLt a b) := by unfold RowLt; infer_instance
end Go.Proofs.YtpdfmfkoopdfgaaGreatDoor
end
section
namespace Go.Proofs.YtpdfmfkoopdfgaaGreatDoor
set_option maxRecDepth 100000
open Go.RowKit Aid Gr Hs LinP HeapP

theorem sl_info : (Tryz.prog.info? 22).map (fun i => (i.zero, i.size, i.bytes)) = some (some (.slice none 0 0), 1, 24) := by kernel_rfl
/-- A row of graphs that lies in memory. -/
def GRd (w : World) (A : Option Addr) (xs : List GSl) : Prop := Sl w A (xs.map GSl.val) ∧ ∀ x ∈ xs, Arcs w x.A x.l ∧ x.l.length ≤ 1000
theorem GRd.below {B : Nat} {w w' : World} {A : Option Addr} {xs : List GSl} (h : GRd w A xs) (hb : Below B w w') (hB : w.heap.size ≤ B) : GRd w' A xs := ⟨h.1.below hb hB, fun x hx => ⟨(h.2 x hx).1.below hb hB, (h.2 x hx).2⟩⟩
theorem GRd.cell {w : World} {A : Option Addr} {xs : List GSl} (h : GRd w A xs) {j : Nat} {x : GSl} (hj : xs[j]? = some x) : ∃ b off, A = some ⟨b, off, none⟩ ∧ w.cell? ⟨b, off + j, none⟩ = some (.slice x.A x.l.length x.c) := by
  have hlt := (List.getElem?_eq_some_iff.1 hj).1
  obtain ⟨b, off, hA, hc⟩ := h.1 (by rw [List.length_map]; omega)
  exact ⟨b, off, hA, hc j _ (by rw [List.getElem?_map, hj]; rfl)⟩
theorem own_belowR {w W : World} {base : Nat} {e : TypeId} {size : Nat} {v : Value} {n : Nat} {xs : List Value} (h : w.ownsRow base e size v n xs) (hb : Below w.heap.size w W) : W.ownsRow base e size v n xs := Gr.row_below h hb (Nat.le_refl _)
/-! ### plain: Put's rounds -/
theorem put_lo {L : List (List Arc)} {g x : List Arc} {i : Nat} (h : putG L g = L.take i ++ putG (L.drop i) g) (hx : L[i]? = some x) (hl : LexLt x g) : putG L g = L.take (i + 1) ++ putG (L.drop (i + 1)) g := by
  obtain ⟨hi, he⟩ := List.getElem?_eq_some_iff.1 hx
  rw [h, List.drop_eq_getElem_cons hi, he, putG]
  rcases lexC_cases g x with ⟨_, q⟩ | ⟨_, q⟩ | ⟨q, _⟩
  · exact absurd (q.trans hl) (LexLt.irrefl _)
  · rw [q] at hl; exact absurd hl (LexLt.irrefl _)
  · rw [if_neg (by omega), if_neg (by omega), List.take_add_one, hx]; simp
theorem put_at {L : List (List Arc)} {g x : List Arc} {i : Nat} (h : putG L g = L.take i ++ putG (L.drop i) g) (hx : L[i]? = some x) (hl : LexLt g x) : putG L g = L.take i ++ [g] ++ [x] ++ L.drop (i + 1) := by
  obtain ⟨hi, he⟩ := List.getElem?_eq_some_iff.1 hx
  rw [h, List.drop_eq_getElem_cons hi, he, putG]
  rcases lexC_cases g x with ⟨q, _⟩ | ⟨_, q⟩ | ⟨_, q⟩
  · rw [if_neg (by omega), if_pos q]; simp
  · rw [q] at hl; exact absurd hl (LexLt.irrefl _)
  · exact absurd (q.trans hl) (LexLt.irrefl _)
theorem rise_after {L : List (List Arc)} (hs : L.Pairwise LexLt) {g x y : List Arc} {i j : Nat} (hx : L[i]? = some x) (hy : L[j]? = some y) (hij : i < j) (hg : LexLt g x) : LexLt g y := by
  obtain ⟨h1, e1⟩ := List.getElem?_eq_some_iff.1 hx
  obtain ⟨h2, e2⟩ := List.getElem?_eq_some_iff.1 hy
  have := List.pairwise_iff_getElem.1 hs i j h1 h2 hij
  rw [e1, e2] at this
  exact hg.trans this
/-- Put, behind i rounds: not yet laid, or laid. -/
def PutUp (L : List (List Arc)) (g : List Arc) (i : Nat) (laid : Bool) (o : List (List Arc)) : Prop :=
  (laid = false → o = L.take i ∧ putG L g = L.take i ++ putG (L.drop i) g) ∧ (laid = true → putG L g = o ++ L.drop i ∧ ∀ (j : Nat) (y : List Arc), i ≤ j → L[j]? = some y → LexLt g y)
theorem PutUp.start (L : List (List Arc)) (g : List Arc) : PutUp L g 0 false [] := ⟨fun _ => ⟨by simp, by simp⟩, fun h => by cases h⟩
theorem PutUp.lo {L : List (List Arc)} {g x : List Arc} {i : Nat} {o : List (List Arc)} (h : PutUp L g i false o) (hx : L[i]? = some x) (hl : LexLt x g) : PutUp L g (i + 1) false (o ++ [x]) := by
  obtain ⟨h1, h2⟩ := h.1 rfl
  exact ⟨fun _ => ⟨by rw [h1, List.take_add_one, hx]; rfl, put_lo h2 hx hl⟩, fun h => by cases h⟩
theorem PutUp.lay {L : List (List Arc)} (hs : L.Pairwise LexLt) {g x : List Arc} {i : Nat} {o : List (List Arc)} (h : PutUp L g i false o) (hx : L[i]? = some x) (hl : LexLt g x) : PutUp L g (i + 1) true (o ++ [g] ++ [x]) := by
  obtain ⟨h1, h2⟩ := h.1 rfl
  exact ⟨fun h => (by cases h), fun _ => ⟨by rw [h1]; exact put_at h2 hx hl, fun j y hj hy => rise_after hs hx hy (by omega) hl⟩⟩
theorem PutUp.hi {L : List (List Arc)} {g x : List Arc} {i : Nat} {o : List (List Arc)} (h : PutUp L g i true o) (hx : L[i]? = some x) : PutUp L g (i + 1) true (o ++ [x]) := by
  obtain ⟨h1, h2⟩ := h.2 rfl
  obtain ⟨hi, he⟩ := List.getElem?_eq_some_iff.1 hx
  exact ⟨fun h => (by cases h), fun _ => ⟨by rw [h1, List.drop_eq_getElem_cons hi, he]; simp, fun j y hj hy => h2 j y (by omega) hy⟩⟩
theorem LiesAs.zero {y : Int} {l m : List Arc} (h : LiesAs y l m) (k : l = m) : y = 0 := by
  subst k
  rcases h with ⟨_, h⟩ | ⟨h, _⟩ | ⟨_, h⟩
  · exact absurd h (LexLt.irrefl _)
  · exact h
  · exact absurd h (LexLt.irrefl _)
theorem LiesAs.pos {y : Int} {l m : List Arc} (h : LiesAs y l m) (k : LexLt m l) : 0 < y := by
  rcases h with ⟨_, h⟩ | ⟨_, h⟩ | ⟨h, _⟩
  · exact absurd (h.trans k) (LexLt.irrefl _)
  · subst h; exact absurd k (LexLt.irrefl _)
  · exact h
end Go.Proofs.YtpdfmfkoopdfgaaGreatDoor
end
