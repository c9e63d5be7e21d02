/- LEnds, PTwoC, PEx, LShown. -/
import Derived.Test.YtpdfmfkoopdfgaaGreatDoorB36
import Derived.Test.YtpdfmfkoopdfgaaGreatDoorB34
import Derived.Test.YtpdfmfkoopdfgaaGreatDoorB03
import Derived.Test.YtpdfmfkoopdfgaaGreatDoorB20
set_option linter.unusedVariables false
set_option linter.unusedSimpArgs false
section
namespace Go.Proofs.YtpdfmfkoopdfgaaGreatDoor
set_option maxRecDepth 100000
open Go.RowKit Aid Gr Hs LinP HeapP

/-! ### how long the graphs are -/
theorem und_ask {ps : List Pt} {d : List Bool} {i : Nat} (h : (sysOf ps).turn i = false) (hi : i < d.length) : und (sysOf ps) (d.set i true) = und (sysOf ps) d := undL_same (fun j ht => by
  rw [isD_set hi]
  by_cases hij : i = j
  · subst hij; rw [h] at ht; cases ht
  · rw [if_neg hij]) _
theorem steps_len {ps : List Pt} {g g' : List Arc} {d d' : List Bool} (h : LinP.Steps (sysOf ps) g d g' d') (hl : d.length = ps.length) (hr : Rises g) : g'.length + und (sysOf ps) d' ≤ g.length + und (sysOf ps) d ∧ Rises g' := by
  induction h with
  | refl => exact ⟨Nat.le_refl _, hr⟩
  | @step g d g' d' i h1 h2 h3 h4 _ ih =>
    have hi : i < ps.length := h1
    have hr2 : Rises ((sysOf ps).nx i g) := rises_do hr _
    have hlen : ((sysOf ps).nx i g).length ≤ g.length + 1 := len_do g (opOf (ptAt ps i))
    obtain ⟨i1, i2⟩ := ih (by rw [List.length_set]; exact hl) hr2
    refine ⟨?_, i2⟩
    cases ht : (sysOf ps).turn i
    · have hs : (sysOf ps).nx i g = g := still_do (o := opOf (ptAt ps i)) ht
      rw [und_ask ht (by omega), hs] at i1
      exact i1
    · have := und_set ht h2 hi hl
      omega
theorem ord_len {ps : List Pt} {g g' : List Arc} (h : LinP.Ord (sysOf ps) g g') (hr : Rises g) : g'.length ≤ g.length + tn ps ∧ Rises g' := by
  obtain ⟨d, hs, _⟩ := h
  have h1 := steps_len hs (List.length_replicate ..) hr
  have h2 : und (sysOf ps) (zeros (sysOf ps)) = tn ps := und_zeros ps ps.length
  exact ⟨by have := h1.1; omega, h1.2⟩
theorem chain_len {ps : List Pt} {g g' : List Arc} (h : Chain ps g g') (hr : Rises g) : g'.length ≤ g.length + tn ps ∧ Rises g' := by
  induction h with
  | done => exact ⟨by omega, hr⟩
  | @era ps g m g' _ ho _ ih =>
    have h1 := ord_len ho hr
    have h2 := ih h1.2
    have h3 := tn_split ps (eraLen ps)
    exact ⟨by have := h1.1; have := h2.1; omega, h2.2⟩

/-! ### what the calls are handed -/
structure LIn (w : World) (G : Option Addr) (ng : Nat) (g : List Arc) (H : Option Addr) (nh : Nat) (l : List Cl) : Prop where
  hng : ng = g.length
  hnh : nh = l.length
  hg : Arcs w G g
  hr : Rises g
  few : g.length ≤ 800
  hh : Cls w H l
  hb : ∀ a ∈ l, a.list.length ≤ 9223372036854775807
  ht : Tab w
  hist : HistIn l
theorem LIn.all {w : World} {G : Option Addr} {ng : Nat} {g : List Arc} {H : Option Addr} {nh : Nat} {l : List Cl} (h : LIn w G ng g H nh l) : AllIn w G ng g H nh l :=
  ⟨h.hng, h.hnh, h.hg, h.hh, by have := h.hist.few; omega, h.hb, h.ht, fun _ => h.hist.ain h.hr h.few⟩
theorem LIn.below {B : Nat} {w w' : World} {G : Option Addr} {ng : Nat} {g : List Arc} {H : Option Addr} {nh : Nat} {l : List Cl} (h : LIn w G ng g H nh l) (hb : Below B w w') (hB : w.heap.size ≤ B) : LIn w' G ng g H nh l :=
  ⟨h.hng, h.hnh, h.hg.below hb hB, h.hr, h.few, h.hh.below hb hB, h.hb, h.ht.below hb hB, h.hist⟩
/-- P21.2: the graphs that orders end with. -/
def Ends (l : List Cl) (g g' : List Arc) : Prop := listedB l = true ∧ Chain (pointsOf l) g g'
theorem res_ends {l : List Cl} (h : HistIn l) {g : List Arc} {gs : List (List Arc)} (hr : AllRes l g gs) (g' : List Arc) : g' ∈ gs ↔ Ends l g g' := by
  unfold AllRes at hr
  unfold Ends
  by_cases hq : listedB l = true
  · rw [if_pos hq] at hr
    rw [hr.ends h.points.good]
    exact ⟨fun k => ⟨hq, k⟩, fun k => k.2⟩
  · rw [if_neg hq] at hr
    subst hr
    exact ⟨fun k => (by cases k), fun k => absurd k.1 hq⟩
/-- lin.Order: P21.1. -/
theorem order_says (G : Option Addr) (gc ng : Nat) (g : List Arc) (H : Option Addr) (hc nh : Nat) (l : List Cl) (w : World) (hi : LIn w G ng g H nh l) (b : Bool) (hbe : b = true ↔ ∃ g', Ends l g g') :
    Calls Tryz.prog 14 #[.slice G ng gc, .slice H nh hc] w fun e w' => e = .returned (.bool b) ∧ Below w.heap.size w w' := by
  refine (order_any G gc ng g H hc nh l w hi.all).mono ?_
  rintro e w' ⟨gs, rfl, hb, hr⟩
  refine ⟨?_, hb⟩
  have : decide (0 < gs.length) = b := by
    rw [Bool.eq_iff_iff, decide_eq_true_iff, hbe]
    constructor
    · intro h
      obtain ⟨x, hx⟩ := List.exists_mem_of_length_pos h
      exact ⟨x, (res_ends hi.hist hr x).1 hx⟩
    · rintro ⟨x, hx⟩
      exact List.length_pos_of_mem ((res_ends hi.hist hr x).2 hx)
  rw [this]

/-! ### the sort, with what lies behind the row's length -/
theorem sort_row {Pd : Value → Prop} {α : Type} [Inhabited α] {enc : α → Value} (he : ∀ x, Pd (enc x)) {w : World} {g n cap q : Nat} {d d' : Array α} {os : Array Obj} (hH : Go.Sort.Holds enc w g 0 d) (hs : d'.size = d.size) (hg : g < w.heap.size) (h : RowAll Pd (.slice (some ⟨g, 0, none⟩) n cap) w) : RowAll Pd (.slice (some ⟨g, 0, none⟩) n cap) (sortWorld enc w g 0 q d' os) := by
  intro g' hg' j x hx
  obtain rfl : g = g' := Option.some.inj hg'
  unfold sortWorld at hx
  rw [Go.Sort.cell?_grow _ _ _ (by unfold Go.Sort.putRow Go.Sort.mapBlock Go.Sort.ahead; simpa using hg)] at hx
  have hA : Go.Sort.Holds enc (Go.Sort.ahead w q) g 0 d := hH
  by_cases hj : j < d'.size
  · have := Go.Sort.cell?_putRow enc (Go.Sort.ahead w q) g 0 d d' hA hs j hj
    rw [Nat.zero_add] at this
    rw [this] at hx
    cases hx
    exact he _
  · rw [Go.Sort.cell?_putRow_other _ _ _ _ _ _ (.inr (.inr (by show 0 + d'.size ≤ j; omega)))] at hx
    exact h g rfl j x hx
theorem sort22r (w : World) (base g cap n : Nat) (zs : List (GT w g)) (hn : n = zs.length) (ho : w.ownsRow base 22 1 (.slice (some ⟨g, 0, none⟩) n cap) n (zs.map encG)) (hk : RowAll IsSl (.slice (some ⟨g, 0, none⟩) n cap) w) (hb : n < 4611686018427387904) :
    Calls Tryz.prog 22 #[.slice (some ⟨g, 0, none⟩) n cap, .func (.func 23) #[] #[]] w fun e w' => e = .returned (.tuple #[]) ∧ ∃ ys : List (GT w g), ys.Perm zs ∧ ys.Pairwise (fun a b => ¬ LexLt b.1.l a.1.l) ∧ w'.ownsRow base 22 1 (.slice (some ⟨g, 0, none⟩) n cap) n (ys.map encG) ∧ w.grownBy w' (some g) ∧ RowAll IsSl (.slice (some ⟨g, 0, none⟩) n cap) w' := by
  obtain ⟨g', cap', hv, _, hlt, _, _, _, hH⟩ := Go.Lib.holds_of_ownsRow ho (by simp)
  cases hv
  have hsz : zs.toArray.size = n := by rw [List.size_toArray, hn]
  have h := Any.slices_SortFunc Tryz.sortG (encG (w := w) (g := g)) (fun _ => rfl) cfG (swo_lex fun x : GT w g => x.1.l) 23 #[] g 0 cap zs.toArray w call23 (cmpG w g _) hH hlt (by rw [hsz]; exact hb)
  rw [hsz] at h
  refine Calls.mono h ?_
  rintro e w' ⟨he, d', q, os, hp, hs, rfl⟩
  have hd : d'.size = n := by rw [hp.1, hsz]
  refine ⟨he, d'.toList, ?_, ?_, ?_, ?_, ?_⟩
  · have h1 := hp.2.2
    have e1 : d'.extract 0 n = d' := by rw [← hd]; exact Array.extract_size
    have e2 : zs.toArray.extract 0 n = zs.toArray := by rw [← hsz]; exact Array.extract_size
    first | (rw [hsz, e1, e2] at h1; simpa using h1) | (rw [e1, e2] at h1; simpa using h1)
  · rw [List.pairwise_iff_getElem]
    intro i j hi hj hij
    have h1 := hs i j (Nat.zero_le _) hij (by rw [Array.length_toList, hd] at hj; first | exact hj | (rw [hsz]; exact hj))
    have hi2 : i < d'.size := by rwa [Array.length_toList] at hi
    have hj2 : j < d'.size := by rwa [Array.length_toList] at hj
    rw [getElem!_pos d' i hi2, getElem!_pos d' j hj2] at h1
    rw [Array.getElem_toList, Array.getElem_toList]
    intro hl
    unfold Go.Proofs.ltOf at h1
    exact of_decide_eq_false h1 ((lexC_neg _ _).2 hl)
  · have h1 := Go.Lib.ownsRow_putRow (q := q) (k := n) (ys := d'.toList) ho (by rw [Array.length_toList, hd]) (Nat.le_refl _)
    rw [List.take_of_length_le (by rw [Array.length_toList, hd]; exact Nat.le_refl _), Array.toArray_toList] at h1
    refine own_blk h1 (fun k hk => ?_)
    have hk2 := (h1.lt k hk).2
    unfold sortWorld Go.Sort.grow
    simp only []
    rw [Array.getElem?_append_left hk2]
  · refine ⟨rfl, rfl, rfl, ?_, fun k hk hne => sortWorld_blk _ _ _ _ _ _ hk (fun e => hne (by rw [e]))⟩
    unfold sortWorld Go.Sort.grow Go.Sort.putRow Go.Sort.mapBlock Go.Sort.ahead
    simp
  · exact sort_row (fun x => ⟨_, _, _, rfl⟩) hH (by rw [hd, hsz]) hlt hk
theorem sort22n (p : Option Addr) (cap : Nat) (w : World) : Calls Tryz.prog 22 #[.slice p 0 cap, .func (.func 23) #[] #[]] w fun e w' => e = .returned (.tuple #[]) ∧ w' = w := AnyF.slices_SortFunc_none { Tryz.sortG with } p cap _ w
/-- The graph of a state. -/
def toG (n : Nw) : GSl := ⟨n.A, n.c, n.l⟩
theorem eq_spec (x y : GSl) : GSl.eq x y = true ↔ x.l = y.l := by unfold GSl.eq sameB; exact decide_eq_true_iff
structure EndI (w1 : World) (out : List Nw) (i : Nat) (v : Value) (wr : World) : Prop where
  own : wr.ownsRow w1.heap.size 22 1 v i (((out.take i).map toG).map GSl.val)
  kind : RowAll IsSl v wr
  bel : Below w1.heap.size w1 wr
theorem gb_base {w1 w w' : World} {v : Value} {e : TypeId} {n : Nat} {xs : List Value} (hb : Below w1.heap.size w1 w) (ho : w.ownsRow w1.heap.size e 1 v n xs) (hg : w.grownBy w' v.ownBlock) : Below w1.heap.size w1 w' :=
  hb.trans ((Below.refl w1.heap.size w).grown hg hb.size (fun k hk => (ho.lt k hk).1))
theorem ends_sort (w1 wi : World) (out : List Nw) (N : Nat) (T : Option Addr) (tc : Nat) (HE : EndI w1 out N (.slice T N tc) wi) (hN : N = out.length) (nb : N ≤ 1000000000000) (hok : ∀ n ∈ out, Arcs w1 n.A n.l ∧ n.l.length ≤ 1000) :
    Calls Tryz.prog 22 #[.slice T N tc, .func (.func 23) #[] #[]] wi fun e w' => e = .returned (.tuple #[]) ∧ ∃ ys : List GSl, ys.Perm (out.map toG) ∧ ys.Pairwise (fun a b => ¬ LexLt b.l a.l) ∧ GRow w' w1.heap.size (.slice T N tc) ys ∧ Below w1.heap.size w1 w' := by
  have hall : ∀ x ∈ out.map toG, Arcs w1 x.A x.l ∧ x.l.length ≤ 1000 := fun x hx => by
    obtain ⟨n, hn, rfl⟩ := List.mem_map.1 hx
    exact hok n hn
  have ho := HE.own
  rw [List.take_of_length_le (by omega)] at ho
  rcases Nat.eq_zero_or_pos N with h0 | hp
  · have hnil : out = [] := List.eq_nil_of_length_eq_zero (by omega)
    subst hnil
    subst h0
    refine (sort22n T tc wi).mono ?_
    rintro e w' ⟨rfl, rfl⟩
    exact ⟨rfl, [], List.Perm.nil, List.Pairwise.nil, ⟨ho, HE.kind, fun x hx => by cases hx⟩, HE.bel⟩
  · rcases own_form ho with ⟨_, h0, _⟩ | ⟨gg, cap, hv, hg, hgl, _, _, _, _⟩
    · omega
    · injection hv with hT _ hc
      subst hT hc
      have gok : ∀ n ∈ out, GOk wi gg (toG n) := fun n hn => by
        have h1 := hok n hn
        refine ⟨h1.1.below HE.bel (Nat.le_refl _), fun hlen a ha => ?_, by have := h1.2; show n.l.length ≤ 100000; omega⟩
        obtain ⟨b, off, hA, hcs⟩ := h1.1.2.2 hlen
        have ha' : n.A = some a := ha
        rw [hA] at ha'; cases ha'
        have hb := World.block_lt_of_cell? _ _ (hcs 0 _ (List.getElem?_eq_getElem hlen)).1
        have := HE.bel.size
        exact ⟨Nat.lt_of_lt_of_le hb this, fun e => by have hb' : b < w1.heap.size := hb; have e' : b = gg := e; omega⟩
      obtain ⟨zs, hz⟩ : ∃ zs : List (GT wi gg), zs.map (fun z => z.1) = out.map toG := ⟨out.attach.map fun n => ⟨toG n.1, gok n.1 n.2⟩, by rw [List.map_map]; show out.attach.map (fun n => toG n.1) = _; simp⟩
      have hze : zs.map encG = (out.map toG).map GSl.val := by rw [← hz, List.map_map]; rfl
      have hzl : N = zs.length := by have := congrArg List.length hz; rw [List.length_map, List.length_map] at this; omega
      refine (sort22r wi w1.heap.size gg tc N zs hzl (by rw [hze]; exact ho) HE.kind (by omega)).mono ?_
      rintro e w' ⟨rfl, ys, hperm, hpw, hown, hgb, hkd⟩
      have hbl : Below w1.heap.size w1 w' := gb_base HE.bel ho hgb
      have hp2 : (ys.map fun z => z.1).Perm (out.map toG) := by rw [← hz]; exact hperm.map _
      refine ⟨rfl, ys.map fun z => z.1, hp2, by rw [List.pairwise_map]; exact hpw, ⟨?_, hkd, fun x hx => ?_⟩, hbl⟩
      · have hl : (ys.map fun z : GT wi gg => z.1).length = N := by rw [List.length_map, hperm.length_eq, ← hzl]
        rw [hl, List.map_map]
        exact hown
      · have := hall x (hp2.mem_iff.1 hx)
        exact ⟨this.1.below hbl (Nat.le_refl _), this.2⟩
set_option maxHeartbeats 4000000 in
theorem ends_any (G : Option Addr) (gc ng : Nat) (g : List Arc) (H : Option Addr) (hc nh : Nat) (l : List Cl) (w : World) (hi : LIn w G ng g H nh l) :
    Calls Tryz.prog 11 #[.slice G ng gc, .slice H nh hc] w fun e w' => ∃ B d ys, e = .returned (.slice B ys.length d) ∧ GRd w' B ys ∧ (ys.map GSl.l).Pairwise LexLt ∧ (∀ g', g' ∈ ys.map GSl.l ↔ Ends l g g') ∧ Below w.heap.size w w' := by
  have DA := Lib.hid (all_res G gc ng g H hc nh l w hi.all)
  have HI := Lib.hid hi
  clear hi
  go_enter Tryz.func11, Tryz.ntmps11
  go_wp2_with (go_at_call 21; ((with_reducible refine DA.out.mono ?_); rintro e w1 ⟨B, d, out, rfl, hsl, hok, hfew, hb1, hr1⟩; have HSL := Lib.hid hsl; have HOK := Lib.hid hok; have HFEW := Lib.hid hfew; have HB1 := Lib.hid hb1; have HR1 := Lib.hid hr1; clear hsl hok hfew hb1 hr1))
  obtain ⟨N, hN⟩ : ∃ N, N = out.length := ⟨_, rfl⟩
  rw [← hN]
  have HN := Lib.hid hN
  have nb : N ≤ 1000000000000 := by have := HFEW.out; omega
  clear hN DA
  go_loopw [5, 12] (fun v x wr => ∃ i : Nat, i ≤ N ∧ x = .int .i64 i ∧ EndI w1 out i v wr) (fun _ x _ => N - (intOf x).toNat)
  case atStart => exact ⟨0, Nat.zero_le _, rfl, ⟨by simpa using World.ownsRow_nil _ _ _ _, fun g hg => (by cases hg), Below.refl _ _⟩⟩
  case round =>
    obtain ⟨i, hi, rfl, hE⟩ := hrel
    obtain ⟨T, tc, hT⟩ := Gr.own_any hE.own
    subst hT
    have HE := Lib.hid hE
    clear hE
    obtain ⟨wi, hwi⟩ : ∃ wi, wi = wr := ⟨_, rfl⟩
    subst hwi
    by_cases hlt : i < N
    · obtain ⟨x, hx⟩ : ∃ x, out[i]? = some x := ⟨out[i]'(by rw [← HN.out]; exact hlt), List.getElem?_eq_getElem _⟩
      obtain ⟨g0, g1⟩ := nflat_get out i x hx
      obtain ⟨bb, bo, hB, hcs⟩ := (HSL.out.below HE.out.bel (Nat.le_refl _)) (by have := (List.getElem?_eq_some_iff.1 g0).1; omega)
      subst hB
      have c0 := hcs _ _ g0
      have c1 := hcs _ _ g1
      rw [← Nat.add_assoc] at c1
      clear hcs g0 g1
      have HX : Hid (out.take (i + 1) = out.take i ++ [x]) := Lib.hid (by rw [List.take_add_one, hx]; rfl)
      clear hx
      obtain ⟨A', c', l', B', k', d'⟩ := x
      change wi.cell? _ = some (.slice A' l'.length c') at c0
      change wi.cell? _ = some (.slice B' d'.length k') at c1
      have i0 : (0 : Int) ≤ (i : Int) := by omega
      have i1 : (i : Int) < (N : Int) := by omega
      have iz : IntKind.i64.wrap ((i : Int) + 1) = (i : Int) + 1 := by rw [IntKind.wrap_i64] <;> omega
      obtain ⟨b22, hb22, hz0, hz1, hz2⟩ := info_parts sl_info
      have hq1 : Hid (∀ u ∈ [Value.slice A' l'.length c'], u.oneCell' = true) := Lib.hid fun u hu => by rw [List.mem_singleton.1 hu]; rfl
      have hq2 : Hid (∀ u ∈ [Value.slice A' l'.length c'], IsSl u) := Lib.hid fun u hu => by rw [List.mem_singleton.1 hu]; exact ⟨_, _, _, rfl⟩
      have hq3 : Hid (∀ u ∈ (Value.slice none 0 0).cells.toList, IsSl u) := Lib.hid fun u hu => by rw [show u = .slice none 0 0 from by simpa [Value.cells] using hu]; exact ⟨_, _, _, rfl⟩
      have hq4 : Hid (i + 1 ≤ maxLen) := Lib.hid (by unfold maxLen; omega)
      have hq5 : Hid ((i + 1) * 24 ≤ 140737488355328) := Lib.hid (by omega)
      have HNW : Hid (∀ (o : Obj) (j : Nat) (u : Value), [Value.slice A' l'.length c'][j]? = some u → ((wi.alloc o).alloc (.cells #[.slice A' l'.length c'] 22)).cell? ⟨wi.heap.size + 1, 0 + j, none⟩ = some u) := Lib.hid fun o j u hu => by
        have := Gr.one_sl (wi.alloc o) (.slice A' l'.length c') 22 (by simp)
        obtain ⟨b, of, hA, hc⟩ := this
        rw [World.size_alloc] at hA
        cases hA
        exact hc j u hu
      have HBA : Hid (∀ o p : Obj, Below wi.heap.size wi ((wi.alloc o).alloc p)) := Lib.hid fun o p => ((Below.refl _ _).alloc (Nat.le_refl _) o).alloc (by rw [World.size_alloc]; omega) p
      have HOA : Hid (∀ o p : Obj, ((wi.alloc o).alloc p).ownsRow w1.heap.size 22 1 (.slice T i tc) i (((out.take i).map toG).map GSl.val)) := Lib.hid fun o p => (HE.out.own.alloc o).alloc p
      have HRA : Hid (∀ o p : Obj, RowAll IsSl (.slice T i tc) ((wi.alloc o).alloc p)) := Lib.hid fun o p => row_below HE.out.kind (fun k hk => (HE.out.own.lt k hk).2) (HBA.out o p)
      have HSZ : Hid (∀ o p : Obj, w1.heap.size ≤ ((wi.alloc o).alloc p).heap.size) := Lib.hid fun o p => Nat.le_trans HE.out.bel.size (HBA.out o p).size
      go_wp2_with (
        at_builtin
        refine wpList_append_all _ rfl (.tmp 16) (.tmp 19) 27 rfl IsSl w1.heap.size 22 b22 _ 1 24 Tryz.underlying27 hb22 hz0 hz1 hz2 rfl Nat.one_pos (.slice T i tc) i (((out.take i).map toG).map GSl.val) rfl (HOA.out (.cells #[.slice A' l'.length c', .slice B' d'.length k'] 66) (.cells #[.slice A' l'.length c'] 22)) (HRA.out (.cells #[.slice A' l'.length c', .slice B' d'.length k'] 66) (.cells #[.slice A' l'.length c'] 22)) (wi.heap.size + 1) 1 1 [.slice A' l'.length c'] rfl rfl (HNW.out (.cells #[.slice A' l'.length c', .slice B' d'.length k'] 66)) hq1.out hq2.out hq3.out Nat.one_pos hq4.out hq5.out (HSZ.out (.cells #[.slice A' l'.length c', .slice B' d'.length k'] 66) (.cells #[.slice A' l'.length c'] 22)) (i + 1) rfl ?_
        intro A5 c5 w5 hown5 hgb5 _ hall5
        have HO5 := Lib.hid hown5
        have HK5 := Lib.hid hall5
        have HB5 := Lib.hid (gb_base (HE.out.bel.trans ((HBA.out (.cells #[.slice A' l'.length c', .slice B' d'.length k'] 66) (.cells #[.slice A' l'.length c'] 22)).mono HE.out.bel.size)) (HOA.out (.cells #[.slice A' l'.length c', .slice B' d'.length k'] 66) (.cells #[.slice A' l'.length c'] 22)) hgb5)
        clear hown5 hgb5 hall5)
      refine ⟨⟨i + 1, by omega, by go_num, ?_, HK5.out, HB5.out⟩, by simp [intOf]; omega⟩
      rw [HX.out, List.map_append, List.map_append]
      exact HO5.out
    · obtain rfl : N = i := by omega
      have RE := Lib.hid (res_ends HI.out.hist HR1.out)
      have HLEN : Hid (∀ n ∈ out, Arcs w1 n.A n.l ∧ n.l.length ≤ 1000) := Lib.hid fun n hn => by
        refine ⟨(HOK.out n hn).1, ?_⟩
        have h1 := (RE.out n.l).1 (List.mem_map.2 ⟨n, hn, rfl⟩)
        have h2 := (chain_len h1.2 HI.out.hr).1
        have h3 := HI.out.hist.tn
        have h4 := HI.out.hist.few
        have h5 := HI.out.few
        omega
      have DS := Lib.hid (ends_sort w1 wi out N T tc HE.out HN.out nb HLEN.out)
      have DC : Hid (∀ (ys : List GSl) (w' : World), ys.Perm (out.map toG) → GRow w' w1.heap.size (.slice T N tc) ys → Calls Tryz.prog 26 #[.slice T N tc, .func (.func 27) #[] #[]] w' fun e w2 => ∃ B d, e = .returned (.slice B (cpt GSl.eq ys).length d) ∧ GRow w2 w1.heap.size (.slice B (cpt GSl.eq ys).length d) (cpt GSl.eq ys) ∧ w'.grownBy w2 (Value.slice T N tc).ownBlock) := Lib.hid fun ys w' hp hr => by
        have hl : N = ys.length := by rw [hp.length_eq, List.length_map]; exact HN.out
        exact compact26 T tc N ys w' w1.heap.size hl hr (by omega)
      go_wp2_with (first
        | (go_at_call 22; ((with_reducible refine DS.out.mono ?_); rintro e w2 ⟨rfl, ys, q1, q2, q3, q4⟩; have Q1 := Lib.hid q1; have Q2 := Lib.hid q2; have Q3 := Lib.hid q3; have Q4 := Lib.hid q4; clear q1 q2 q3 q4))
        | (go_at_call 26; ((with_reducible refine (DC.out ys w2 Q1.out Q3.out).mono ?_); rintro e w3 ⟨B3, d3, rfl, q5, q6⟩; have Q5 := Lib.hid q5; have Q6 := Lib.hid q6; clear q5 q6)))
      go_ret
      obtain ⟨hs, hm⟩ := cpt_rises GSl.l GSl.eq eq_spec ys Q2.out
      have hbl := gb_base Q4.out Q3.out.own Q6.out
      refine ⟨B3, d3, cpt GSl.eq ys, rfl, ⟨own_sl Q5.out.own, Q5.out.ok⟩, by rw [List.pairwise_map]; exact hs, fun g' => ?_, HB1.out.trans (hbl.mono HB1.out.size)⟩
      rw [← RE.out g', List.mem_map]
      refine (hm g').trans ?_
      rw [List.mem_map]
      constructor
      · rintro ⟨x, hx, rfl⟩
        obtain ⟨n, hn, rfl⟩ := List.mem_map.1 (Q1.out.mem_iff.1 hx)
        exact ⟨n, hn, rfl⟩
      · rintro ⟨n, hn, rfl⟩
        exact ⟨toG n, Q1.out.mem_iff.2 (List.mem_map.2 ⟨n, hn, rfl⟩), rfl⟩
end Go.Proofs.YtpdfmfkoopdfgaaGreatDoor
end
section
namespace Go.Proofs.YtpdfmfkoopdfgaaGreatDoor
set_option maxRecDepth 100000
open Go.RowKit Aid Gr Hs LinP HeapP

/-- A call that is answered, asks for no neighbours, and bears no list. -/
structure Plain (c : Cl) : Prop where
  kind : c.k ≠ 17
  op : openB c = false
  id : idleB c = false
  nil : c.list = []
theorem Plain.pts {c : Cl} (h : Plain c) (keys : List Int) : ptsOf c keys = [ptPlain c] := by
  unfold ptsOf
  rw [h.op, h.id]
  simp [h.kind]
theorem Plain.listed {c : Cl} (h : Plain c) (keys : List Int) : notListed keys c = false := by
  unfold notListed Hs.listedB
  rw [h.op, h.id, if_pos (.inl h.kind), h.nil]
  rfl
theorem plain_points {l : List Cl} (h : ∀ c ∈ l, Plain c) : pointsOf l = l.map ptPlain := by
  unfold pointsOf pointsK
  generalize keysOf l = keys
  induction l with
  | nil => rfl
  | cons a l ih =>
    rw [List.flatMap_cons, (h a (List.mem_cons_self ..)).pts, ih (fun c hc => h c (List.mem_cons_of_mem _ hc))]
    rfl
theorem plain_listed {l : List Cl} (h : ∀ c ∈ l, Plain c) : listedB l = true := by
  unfold listedB
  rw [Bool.not_eq_true', List.any_eq_false]
  intro c hc
  rw [(h c hc).listed]; simp
theorem chain_one_era {ps : List Pt} (hps : ps ≠ []) (he : ∀ p ∈ ps, p.era = (ps.headD ptD).era) (g g' : List Arc) : Chain ps g g' ↔ LinP.Ord (sysOf ps) g g' := by
  have hlen : eraLen ps = ps.length := by
    unfold eraLen
    have : ps.findIdx? (fun p => p.era != (ps.headD ptD).era) = none := by
      rw [List.findIdx?_eq_none_iff]
      intro p hp
      simp [he p hp]
    rw [this]
  constructor
  · intro h
    cases h with
    | done => exact absurd rfl hps
    | era _ ho hc =>
      rw [hlen, List.take_length] at ho
      rw [hlen, List.drop_length] at hc
      cases hc with
      | done => exact ho
      | era h0 _ _ => exact absurd rfl h0
  · intro h
    refine .era hps (m := g') (by rw [hlen, List.take_length]; exact h) (by rw [hlen, List.drop_length]; exact .done g')
theorem two_ends {a b : Cl} (ha : Plain a) (hb : Plain b) (he : a.era = b.era) (g g' : List Arc) : Ends [a, b] g g' ↔
    (¬ (0 ≤ b.to ∧ b.to < a.fr) ∧ fitR (ptPlain a) (doA g (opOf (ptPlain a))) = true ∧ fitR (ptPlain b) (doA (doG g (opOf (ptPlain a))) (opOf (ptPlain b))) = true ∧ g' = doG (doG g (opOf (ptPlain a))) (opOf (ptPlain b))) ∨
    (¬ (0 ≤ a.to ∧ a.to < b.fr) ∧ fitR (ptPlain b) (doA g (opOf (ptPlain b))) = true ∧ fitR (ptPlain a) (doA (doG g (opOf (ptPlain b))) (opOf (ptPlain a))) = true ∧ g' = doG (doG g (opOf (ptPlain b))) (opOf (ptPlain a))) := by
  have hall : ∀ c ∈ [a, b], Plain c := fun c hc => by
    rcases List.mem_cons.1 hc with rfl | hc
    · exact ha
    · rw [List.mem_singleton] at hc; subst hc; exact hb
  unfold Ends
  rw [plain_listed hall, plain_points hall]
  have h1 := chain_one_era (ps := [a, b].map ptPlain) (by simp) (fun p hp => by
    simp only [List.map_cons, List.map_nil, List.mem_cons, List.not_mem_nil, or_false] at hp
    rcases hp with rfl | rfl
    · rfl
    · exact he.symm) g g'
  rw [h1]
  have h2 := ord_two (S := sysOf ([a, b].map ptPlain)) rfl rfl rfl g g'
  rw [h2]
  simp only [true_and]
  exact Iff.rfl
theorem no_calls (g g' : List Arc) : Ends [] g g' ↔ g' = g := by
  unfold Ends
  have h1 : listedB [] = true := rfl
  have h2 : pointsOf [] = [] := rfl
  rw [h1, h2]
  constructor
  · rintro ⟨_, h⟩
    cases h with
    | done => rfl
    | era h _ _ => exact absurd rfl h
  · rintro rfl
    exact ⟨rfl, .done _⟩
end Go.Proofs.YtpdfmfkoopdfgaaGreatDoor
end
section
namespace Go.Proofs.YtpdfmfkoopdfgaaGreatDoor
set_option maxRecDepth 100000
open Go.RowKit Aid Gr Hs LinP HeapP

theorem in_nil (u : Int) : inB [] u = false := hasB_no.2 fun a ha => by cases ha
theorem in_one (u : Int) : inB [⟨u, -1, 0⟩] u = true := hasB_iff.2 ⟨⟨u, -1, 0⟩, List.mem_singleton.2 rfl, rfl, rfl⟩
theorem keys_11 {u v x : Int} (h : Gr.isV u = true) : keysB ⟨11, u, v, x⟩ = true := by unfold keysB; simp [edgeKind, h]
theorem keys_13 {u v x : Int} (h : Gr.isV u = true) : keysB ⟨13, u, v, x⟩ = true := by unfold keysB; simp [edgeKind, h]
theorem do_add {u v x : Int} (h : Gr.isV u = true) : doG [] ⟨11, u, v, x⟩ = [⟨u, -1, 0⟩] := by
  unfold doG
  rw [if_neg (by simp [keys_11 h]), if_pos rfl]
  exact withL_miss (l := []) (x := ⟨u, -1, 0⟩) (in_nil u)
theorem ans_add {u v x : Int} (h : Gr.isV u = true) (l : List Arc) : doA l ⟨11, u, v, x⟩ = ⟨0, !inB l u, 0, 0, []⟩ := by unfold doA; simp [keys_11 h]
theorem ans_ask {u v x : Int} (h : Gr.isV u = true) (l : List Arc) : doA l ⟨13, u, v, x⟩ = ⟨0, inB l u, 0, 0, []⟩ := by unfold doA; simp [keys_13 h]
theorem do_ask {u v x : Int} (l : List Arc) : doG l ⟨13, u, v, x⟩ = l := still_do rfl
/-- A call that adds a vertex, and one that asks for it, or adds it as well. -/
def clAdd (me u fr tt : Int) (is : Bool) : Cl := ⟨me, 11, u, 0, 0, 0, fr, tt, 0, is, 0, 0, [], none, 0⟩
def clAsk (me u fr tt : Int) (is : Bool) : Cl := ⟨me, 13, u, 0, 0, 0, fr, tt, 0, is, 0, 0, [], none, 0⟩
theorem plain_add {me u fr tt : Int} {is : Bool} (h : 0 ≤ tt) : Plain (clAdd me u fr tt is) := ⟨by simp [clAdd], by unfold openB clAdd; simp; omega, by unfold idleB clAdd; simp, rfl⟩
theorem plain_ask {me u fr tt : Int} {is : Bool} (h : 0 ≤ tt) : Plain (clAsk me u fr tt is) := ⟨by simp [clAsk], by unfold openB clAsk; simp; omega, by unfold idleB clAsk; simp, rfl⟩
/-- Added, and asked for, in either row: the graphs that orders end with. -/
theorem add_ask {u f t x y : Int} {is : Bool} (hu : Gr.isV u = true) (ht : 0 ≤ t) (hy : 0 ≤ y) (g' : List Arc) :
    (Ends [clAdd 0 u f t true, clAsk 1 u x y is] [] g' ↔ (if is then ¬ y < f else ¬ t < x) ∧ g' = [⟨u, -1, 0⟩]) ∧
    (Ends [clAsk 1 u x y is, clAdd 0 u f t true] [] g' ↔ (if is then ¬ y < f else ¬ t < x) ∧ g' = [⟨u, -1, 0⟩]) := by
  have e1 := two_ends (a := clAdd 0 u f t true) (b := clAsk 1 u x y is) (plain_add ht) (plain_ask hy) rfl [] g'
  have e2 := two_ends (a := clAsk 1 u x y is) (b := clAdd 0 u f t true) (plain_ask hy) (plain_add ht) rfl [] g'
  have oa : opOf (ptPlain (clAdd 0 u f t true)) = ⟨11, u, 0, 0⟩ := rfl
  have ob : opOf (ptPlain (clAsk 1 u x y is)) = ⟨13, u, 0, 0⟩ := rfl
  rw [oa, ob] at e1 e2
  simp only [ans_add hu, ans_ask hu, do_add hu, do_ask, in_nil, in_one] at e1 e2
  have f1 : (ptPlain (clAdd 0 u f t true)).is = true := rfl
  constructor
  · rw [e1]
    cases is <;> (unfold fitR ptPlain clAdd clAsk; simp; try omega)
    all_goals (constructor <;> rintro ⟨h1, h2⟩ <;> exact ⟨by omega, h2⟩)
  · rw [e2]
    cases is <;> (unfold fitR ptPlain clAdd clAsk; simp; try omega)
    all_goals (constructor <;> rintro ⟨h1, h2⟩ <;> exact ⟨by omega, h2⟩)
end Go.Proofs.YtpdfmfkoopdfgaaGreatDoor
end
section
namespace Go.Proofs.YtpdfmfkoopdfgaaGreatDoor
set_option maxRecDepth 100000
open Go.RowKit Aid Gr Hs LinP HeapP

theorem right_two {a b : Cl} (ha : mayB a = true) (hb : mayB b = true) (h : fitsB a b = true) : Hs.RightP [a, b] := fun j c hc => by
  rcases j with _ | _ | j
  · simp at hc; subst hc
    exact ⟨ha, fun k x hk _ => by omega⟩
  · simp at hc; subst hc
    refine ⟨hb, fun k x hk hx => ?_⟩
    obtain rfl : k = 0 := by omega
    simp at hx; subst hx
    exact h
  · simp at hc
theorem hist_two {a b : Cl} (ha : mayB a = true) (hb : mayB b = true) (h : fitsB a b = true) (fa : a.Fine) (fb : b.Fine) : HistIn [a, b] := ⟨right_two ha hb h, by simp, fun c hc => by
  rcases List.mem_cons.1 hc with rfl | hc
  · exact fa
  · rw [List.mem_singleton] at hc; subst hc; exact fb⟩
theorem cls_two (W : World) (a b : Cl) (t : TypeId) (ha : a.list = []) (hb : b.list = []) : Cls (W.alloc (.cells (a.cells ++ b.cells).toArray t)) (some ⟨W.heap.size, 0, none⟩) [a, b] := by
  refine ⟨fun c hc hp => ?_, fun _ => ⟨_, _, rfl, fun i c hi j v hv => ?_⟩⟩
  · exfalso
    rcases List.mem_cons.1 hc with rfl | hc
    · rw [ha] at hp; simp at hp
    · rw [List.mem_singleton] at hc; subst hc; rw [hb] at hp; simp at hp
  · rw [Nat.zero_add, World.cell?_alloc_new, List.getElem?_toArray]
    have la : a.cells.length = 13 := rfl
    rcases i with _ | _ | i
    · simp at hi; subst hi
      have hj := (List.getElem?_eq_some_iff.1 hv).1
      rw [List.getElem?_append_left (by omega), Nat.zero_mul, Nat.zero_add]; exact hv
    · simp at hi; subst hi
      rw [List.getElem?_append_right (by omega), la, show (0 + 1) * 13 + j - 13 = j by omega]; exact hv
    · simp at hi
theorem lin_two {W : World} {a b : Cl} (hT : Tab W) (ha : a.list = []) (hb : b.list = []) (h : HistIn [a, b]) : LIn (W.alloc (.cells (a.cells ++ b.cells).toArray 43)) none 0 [] (some ⟨W.heap.size, 0, none⟩) 2 [a, b] :=
  ⟨rfl, rfl, ⟨by simp, by simp, by simp⟩, fun i j a b _ h => (by simp at h), by simp, cls_two W a b 43 ha hb, fun c hc => by
    rcases List.mem_cons.1 hc with rfl | hc
    · rw [ha]; simp
    · rw [List.mem_singleton] at hc; subst hc; rw [hb]; simp, hT.below ((Below.refl _ _).alloc (Nat.le_refl _) _) (Nat.le_refl _), h⟩
theorem isV1 : Gr.isV 1 = true := by unfold Gr.isV; decide

theorem histB : HistIn [(clAdd 0 1 0 3 true), (clAsk 1 1 1 2 false)] := hist_two (by decide) (by decide) (by decide) ⟨by decide, by decide, by decide, by decide⟩ ⟨by decide, by decide, by decide, by decide⟩
theorem ordB (W : World) (hT : Tab W) : Calls Tryz.prog 14 #[.slice none 0 0, .slice (some ⟨W.heap.size, 0, none⟩) 2 2] (W.alloc (.cells #[.int .i64 0, .int .i64 11, .int .i64 1, .int .i64 0, .int .u64 0, .int .i64 0, .int .i64 0, .int .i64 3, .int .i64 0, .bool true, .int .i64 0, .int .u64 0, .slice none 0 0, .int .i64 1, .int .i64 13, .int .i64 1, .int .i64 0, .int .u64 0, .int .i64 0, .int .i64 1, .int .i64 2, .int .i64 0, .bool false, .int .i64 0, .int .u64 0, .slice none 0 0] 43)) fun e w' => e = .returned (.bool true) ∧ Below W.heap.size W w' := by
  have h := order_says none 0 0 [] (some ⟨W.heap.size, 0, none⟩) 2 2 [(clAdd 0 1 0 3 true), (clAsk 1 1 1 2 false)] _ (lin_two hT rfl rfl histB) true (by
    constructor
    · intro _
      exact ⟨[⟨1, -1, 0⟩], (add_ask isV1 (by decide) (by decide) _).1.2 ⟨by decide, rfl⟩⟩
    · intro _
      rfl)
  refine h.mono ?_
  rintro e w' ⟨he, hb⟩
  exact ⟨he, ((Below.refl W.heap.size W).alloc (Nat.le_refl _) _).trans (hb.mono (by rw [World.size_alloc]; omega))⟩

theorem histC : HistIn [(clAdd 0 1 0 3 true), (clAsk 1 1 1 2 true)] := hist_two (by decide) (by decide) (by decide) ⟨by decide, by decide, by decide, by decide⟩ ⟨by decide, by decide, by decide, by decide⟩
theorem ordC (W : World) (hT : Tab W) : Calls Tryz.prog 14 #[.slice none 0 0, .slice (some ⟨W.heap.size, 0, none⟩) 2 2] (W.alloc (.cells #[.int .i64 0, .int .i64 11, .int .i64 1, .int .i64 0, .int .u64 0, .int .i64 0, .int .i64 0, .int .i64 3, .int .i64 0, .bool true, .int .i64 0, .int .u64 0, .slice none 0 0, .int .i64 1, .int .i64 13, .int .i64 1, .int .i64 0, .int .u64 0, .int .i64 0, .int .i64 1, .int .i64 2, .int .i64 0, .bool true, .int .i64 0, .int .u64 0, .slice none 0 0] 43)) fun e w' => e = .returned (.bool true) ∧ Below W.heap.size W w' := by
  have h := order_says none 0 0 [] (some ⟨W.heap.size, 0, none⟩) 2 2 [(clAdd 0 1 0 3 true), (clAsk 1 1 1 2 true)] _ (lin_two hT rfl rfl histC) true (by
    constructor
    · intro _
      exact ⟨[⟨1, -1, 0⟩], (add_ask isV1 (by decide) (by decide) _).1.2 ⟨by decide, rfl⟩⟩
    · intro _
      rfl)
  refine h.mono ?_
  rintro e w' ⟨he, hb⟩
  exact ⟨he, ((Below.refl W.heap.size W).alloc (Nat.le_refl _) _).trans (hb.mono (by rw [World.size_alloc]; omega))⟩

theorem histD : HistIn [(clAdd 0 1 0 3 true), (clAsk 1 1 4 5 false)] := hist_two (by decide) (by decide) (by decide) ⟨by decide, by decide, by decide, by decide⟩ ⟨by decide, by decide, by decide, by decide⟩
theorem ordD (W : World) (hT : Tab W) : Calls Tryz.prog 14 #[.slice none 0 0, .slice (some ⟨W.heap.size, 0, none⟩) 2 2] (W.alloc (.cells #[.int .i64 0, .int .i64 11, .int .i64 1, .int .i64 0, .int .u64 0, .int .i64 0, .int .i64 0, .int .i64 3, .int .i64 0, .bool true, .int .i64 0, .int .u64 0, .slice none 0 0, .int .i64 1, .int .i64 13, .int .i64 1, .int .i64 0, .int .u64 0, .int .i64 0, .int .i64 4, .int .i64 5, .int .i64 0, .bool false, .int .i64 0, .int .u64 0, .slice none 0 0] 43)) fun e w' => e = .returned (.bool false) ∧ Below W.heap.size W w' := by
  have h := order_says none 0 0 [] (some ⟨W.heap.size, 0, none⟩) 2 2 [(clAdd 0 1 0 3 true), (clAsk 1 1 4 5 false)] _ (lin_two hT rfl rfl histD) false (by
    constructor
    · intro h
      cases h
    · rintro ⟨g', hg⟩
      exact absurd ((add_ask isV1 (by decide) (by decide) _).1.1 hg).1 (by decide))
  refine h.mono ?_
  rintro e w' ⟨he, hb⟩
  exact ⟨he, ((Below.refl W.heap.size W).alloc (Nat.le_refl _) _).trans (hb.mono (by rw [World.size_alloc]; omega))⟩

theorem histE : HistIn [(clAdd 0 1 0 3 true), (clAsk 1 1 4 5 true)] := hist_two (by decide) (by decide) (by decide) ⟨by decide, by decide, by decide, by decide⟩ ⟨by decide, by decide, by decide, by decide⟩
theorem ordE (W : World) (hT : Tab W) : Calls Tryz.prog 14 #[.slice none 0 0, .slice (some ⟨W.heap.size, 0, none⟩) 2 2] (W.alloc (.cells #[.int .i64 0, .int .i64 11, .int .i64 1, .int .i64 0, .int .u64 0, .int .i64 0, .int .i64 0, .int .i64 3, .int .i64 0, .bool true, .int .i64 0, .int .u64 0, .slice none 0 0, .int .i64 1, .int .i64 13, .int .i64 1, .int .i64 0, .int .u64 0, .int .i64 0, .int .i64 4, .int .i64 5, .int .i64 0, .bool true, .int .i64 0, .int .u64 0, .slice none 0 0] 43)) fun e w' => e = .returned (.bool true) ∧ Below W.heap.size W w' := by
  have h := order_says none 0 0 [] (some ⟨W.heap.size, 0, none⟩) 2 2 [(clAdd 0 1 0 3 true), (clAsk 1 1 4 5 true)] _ (lin_two hT rfl rfl histE) true (by
    constructor
    · intro _
      exact ⟨[⟨1, -1, 0⟩], (add_ask isV1 (by decide) (by decide) _).1.2 ⟨by decide, rfl⟩⟩
    · intro _
      rfl)
  refine h.mono ?_
  rintro e w' ⟨he, hb⟩
  exact ⟨he, ((Below.refl W.heap.size W).alloc (Nat.le_refl _) _).trans (hb.mono (by rw [World.size_alloc]; omega))⟩

theorem endsB (W : World) (hT : Tab W) : Calls Tryz.prog 11 #[.slice none 0 0, .slice (some ⟨W.heap.size, 0, none⟩) 2 2] (W.alloc (.cells #[.int .i64 0, .int .i64 11, .int .i64 1, .int .i64 0, .int .u64 0, .int .i64 0, .int .i64 0, .int .i64 3, .int .i64 0, .bool true, .int .i64 0, .int .u64 0, .slice none 0 0, .int .i64 1, .int .i64 13, .int .i64 1, .int .i64 0, .int .u64 0, .int .i64 0, .int .i64 1, .int .i64 2, .int .i64 0, .bool false, .int .i64 0, .int .u64 0, .slice none 0 0] 43)) fun e w' => ∃ bb bo d A c, e = .returned (.slice (some ⟨bb, bo, none⟩) 1 d) ∧ w'.cell? ⟨bb, bo, none⟩ = some (.slice A 1 c) ∧ Below W.heap.size W w' := by
  refine (ends_any none 0 0 [] (some ⟨W.heap.size, 0, none⟩) 2 2 [(clAdd 0 1 0 3 true), (clAsk 1 1 1 2 false)] _ (lin_two hT rfl rfl histB)).mono ?_
  rintro e w' ⟨B, d, ys, rfl, hgr, hs, hm, hb⟩
  have hm2 : ∀ g', g' ∈ ys.map GSl.l ↔ g' = [⟨1, -1, 0⟩] := fun g' => by
    rw [hm g', (add_ask isV1 (by decide) (by decide) _).1]
    exact ⟨fun h => h.2, fun h => ⟨by decide, h⟩⟩
  have hone : ys.map GSl.l = [[⟨1, -1, 0⟩]] := rises_ext hs (List.pairwise_singleton _ _) (fun g' => by rw [hm2 g', List.mem_singleton])
  obtain ⟨y, rfl, hy⟩ : ∃ y, ys = [y] ∧ y.l = [⟨1, -1, 0⟩] := by
    rcases ys with _ | ⟨y, _ | ⟨z, r⟩⟩
    · simp at hone
    · exact ⟨y, rfl, by simpa using hone⟩
    · simp at hone
  obtain ⟨bb, bo, rfl, hc⟩ := hgr.cell (j := 0) (x := y) rfl
  rw [hy] at hc
  exact ⟨bb, bo, d, y.A, y.c, rfl, hc, ((Below.refl W.heap.size W).alloc (Nat.le_refl _) _).trans (hb.mono (by rw [World.size_alloc]; omega))⟩
theorem ordN (W : World) (hT : Tab W) : Calls Tryz.prog 14 #[.slice none 0 0, .slice none 0 0] W fun e w' => e = .returned (.bool true) ∧ Below W.heap.size W w' :=
  order_says none 0 0 [] none 0 0 [] W ⟨rfl, rfl, ⟨by simp, by simp, by simp⟩, fun i j a b _ h => (by simp at h), by simp, ⟨fun a h => (by cases h), fun h => (by simp at h)⟩, fun a h => (by cases h), hT, ⟨fun j b h => (by simp at h), by simp, fun c h => (by cases h)⟩⟩ true ⟨fun _ => ⟨[], (no_calls [] []).2 rfl⟩, fun _ => rfl⟩

theorem five_box (w : World) (a b c d e : Cl) : ∀ W : World, Below (((((w.alloc (bx a)).alloc (bx b)).alloc (bx c)).alloc (bx d)).alloc (bx e)).heap.size (((((w.alloc (bx a)).alloc (bx b)).alloc (bx c)).alloc (bx d)).alloc (bx e)) W → At W w.heap.size 0 a ∧ At W (w.heap.size + 1) 0 b ∧ At W (w.heap.size + 2) 0 c ∧ At W (w.heap.size + 3) 0 d ∧ At W (w.heap.size + 4) 0 e ∧ Below w.heap.size w W := fun W h => by
  have n1 := at_box w a
  have n2 := at_box (w.alloc (bx a)) b
  have n3 := at_box ((w.alloc (bx a)).alloc (bx b)) c
  have n4 := at_box (((w.alloc (bx a)).alloc (bx b)).alloc (bx c)) d
  have n5 := at_box ((((w.alloc (bx a)).alloc (bx b)).alloc (bx c)).alloc (bx d)) e
  have g4 := (Below.refl ((((w.alloc (bx a)).alloc (bx b)).alloc (bx c)).alloc (bx d)).heap.size ((((w.alloc (bx a)).alloc (bx b)).alloc (bx c)).alloc (bx d))).alloc (Nat.le_refl _) (bx e)
  have g3 := ((Below.refl (((w.alloc (bx a)).alloc (bx b)).alloc (bx c)).heap.size (((w.alloc (bx a)).alloc (bx b)).alloc (bx c))).alloc (Nat.le_refl _) (bx d)).trans (g4.mono (by simp only [World.size_alloc]; omega))
  have g2 := ((Below.refl ((w.alloc (bx a)).alloc (bx b)).heap.size ((w.alloc (bx a)).alloc (bx b))).alloc (Nat.le_refl _) (bx c)).trans (g3.mono (by simp only [World.size_alloc]; omega))
  have g1 := ((Below.refl (w.alloc (bx a)).heap.size (w.alloc (bx a))).alloc (Nat.le_refl _) (bx b)).trans (g2.mono (by simp only [World.size_alloc]; omega))
  have g0 := ((Below.refl w.heap.size w).alloc (Nat.le_refl _) (bx a)).trans (g1.mono (by simp only [World.size_alloc]; omega))
  simp only [World.size_alloc, Nat.add_assoc, Nat.reduceAdd] at n2 n3 n4 n5
  exact ⟨(n1.below g1 (Nat.le_refl _)).below h (Nat.le_refl _), (n2.below g2 (Nat.le_refl _)).below h (Nat.le_refl _), (n3.below g3 (Nat.le_refl _)).below h (Nat.le_refl _), (n4.below g4 (Nat.le_refl _)).below h (Nat.le_refl _), n5.below h (Nat.le_refl _), g0.trans (h.mono (by simp only [World.size_alloc]; omega))⟩

def FA (n : Nat) (W : World) : Prop := W.cell? ⟨n, 0, none⟩ = some (.int .i64 0) ∧ W.cell? ⟨n, 1, none⟩ = some (.int .i64 11) ∧ W.cell? ⟨n, 2, none⟩ = some (.int .i64 1) ∧ W.cell? ⟨n, 3, none⟩ = some (.int .i64 0) ∧ W.cell? ⟨n, 4, none⟩ = some (.int .u64 0) ∧ W.cell? ⟨n, 5, none⟩ = some (.int .i64 0) ∧ W.cell? ⟨n, 6, none⟩ = some (.int .i64 0) ∧ W.cell? ⟨n, 7, none⟩ = some (.int .i64 3) ∧ W.cell? ⟨n, 8, none⟩ = some (.int .i64 0) ∧ W.cell? ⟨n, 9, none⟩ = some (.bool true) ∧ W.cell? ⟨n, 10, none⟩ = some (.int .i64 0) ∧ W.cell? ⟨n, 11, none⟩ = some (.int .u64 0) ∧ W.cell? ⟨n, 12, none⟩ = some (.slice none 0 0)

def FB (n : Nat) (W : World) : Prop := W.cell? ⟨n + 1, 0, none⟩ = some (.int .i64 1) ∧ W.cell? ⟨n + 1, 1, none⟩ = some (.int .i64 13) ∧ W.cell? ⟨n + 1, 2, none⟩ = some (.int .i64 1) ∧ W.cell? ⟨n + 1, 3, none⟩ = some (.int .i64 0) ∧ W.cell? ⟨n + 1, 4, none⟩ = some (.int .u64 0) ∧ W.cell? ⟨n + 1, 5, none⟩ = some (.int .i64 0) ∧ W.cell? ⟨n + 1, 6, none⟩ = some (.int .i64 1) ∧ W.cell? ⟨n + 1, 7, none⟩ = some (.int .i64 2) ∧ W.cell? ⟨n + 1, 8, none⟩ = some (.int .i64 0) ∧ W.cell? ⟨n + 1, 9, none⟩ = some (.bool false) ∧ W.cell? ⟨n + 1, 10, none⟩ = some (.int .i64 0) ∧ W.cell? ⟨n + 1, 11, none⟩ = some (.int .u64 0) ∧ W.cell? ⟨n + 1, 12, none⟩ = some (.slice none 0 0)

def FC (n : Nat) (W : World) : Prop := W.cell? ⟨n + 2, 0, none⟩ = some (.int .i64 1) ∧ W.cell? ⟨n + 2, 1, none⟩ = some (.int .i64 13) ∧ W.cell? ⟨n + 2, 2, none⟩ = some (.int .i64 1) ∧ W.cell? ⟨n + 2, 3, none⟩ = some (.int .i64 0) ∧ W.cell? ⟨n + 2, 4, none⟩ = some (.int .u64 0) ∧ W.cell? ⟨n + 2, 5, none⟩ = some (.int .i64 0) ∧ W.cell? ⟨n + 2, 6, none⟩ = some (.int .i64 1) ∧ W.cell? ⟨n + 2, 7, none⟩ = some (.int .i64 2) ∧ W.cell? ⟨n + 2, 8, none⟩ = some (.int .i64 0) ∧ W.cell? ⟨n + 2, 9, none⟩ = some (.bool true) ∧ W.cell? ⟨n + 2, 10, none⟩ = some (.int .i64 0) ∧ W.cell? ⟨n + 2, 11, none⟩ = some (.int .u64 0) ∧ W.cell? ⟨n + 2, 12, none⟩ = some (.slice none 0 0)

def FD (n : Nat) (W : World) : Prop := W.cell? ⟨n + 3, 0, none⟩ = some (.int .i64 1) ∧ W.cell? ⟨n + 3, 1, none⟩ = some (.int .i64 13) ∧ W.cell? ⟨n + 3, 2, none⟩ = some (.int .i64 1) ∧ W.cell? ⟨n + 3, 3, none⟩ = some (.int .i64 0) ∧ W.cell? ⟨n + 3, 4, none⟩ = some (.int .u64 0) ∧ W.cell? ⟨n + 3, 5, none⟩ = some (.int .i64 0) ∧ W.cell? ⟨n + 3, 6, none⟩ = some (.int .i64 4) ∧ W.cell? ⟨n + 3, 7, none⟩ = some (.int .i64 5) ∧ W.cell? ⟨n + 3, 8, none⟩ = some (.int .i64 0) ∧ W.cell? ⟨n + 3, 9, none⟩ = some (.bool false) ∧ W.cell? ⟨n + 3, 10, none⟩ = some (.int .i64 0) ∧ W.cell? ⟨n + 3, 11, none⟩ = some (.int .u64 0) ∧ W.cell? ⟨n + 3, 12, none⟩ = some (.slice none 0 0)

def FE (n : Nat) (W : World) : Prop := W.cell? ⟨n + 4, 0, none⟩ = some (.int .i64 1) ∧ W.cell? ⟨n + 4, 1, none⟩ = some (.int .i64 13) ∧ W.cell? ⟨n + 4, 2, none⟩ = some (.int .i64 1) ∧ W.cell? ⟨n + 4, 3, none⟩ = some (.int .i64 0) ∧ W.cell? ⟨n + 4, 4, none⟩ = some (.int .u64 0) ∧ W.cell? ⟨n + 4, 5, none⟩ = some (.int .i64 0) ∧ W.cell? ⟨n + 4, 6, none⟩ = some (.int .i64 4) ∧ W.cell? ⟨n + 4, 7, none⟩ = some (.int .i64 5) ∧ W.cell? ⟨n + 4, 8, none⟩ = some (.int .i64 0) ∧ W.cell? ⟨n + 4, 9, none⟩ = some (.bool true) ∧ W.cell? ⟨n + 4, 10, none⟩ = some (.int .i64 0) ∧ W.cell? ⟨n + 4, 11, none⟩ = some (.int .u64 0) ∧ W.cell? ⟨n + 4, 12, none⟩ = some (.slice none 0 0)

theorem fiveAt (w W : World) (h : Below ((((((w.alloc (.cells #[.int .i64 0, .int .i64 11, .int .i64 1, .int .i64 0, .int .u64 0, .int .i64 0, .int .i64 0, .int .i64 3, .int .i64 0, .bool true, .int .i64 0, .int .u64 0, .slice none 0 0] 43)).alloc (.cells #[.int .i64 1, .int .i64 13, .int .i64 1, .int .i64 0, .int .u64 0, .int .i64 0, .int .i64 1, .int .i64 2, .int .i64 0, .bool false, .int .i64 0, .int .u64 0, .slice none 0 0] 43)).alloc (.cells #[.int .i64 1, .int .i64 13, .int .i64 1, .int .i64 0, .int .u64 0, .int .i64 0, .int .i64 1, .int .i64 2, .int .i64 0, .bool true, .int .i64 0, .int .u64 0, .slice none 0 0] 43)).alloc (.cells #[.int .i64 1, .int .i64 13, .int .i64 1, .int .i64 0, .int .u64 0, .int .i64 0, .int .i64 4, .int .i64 5, .int .i64 0, .bool false, .int .i64 0, .int .u64 0, .slice none 0 0] 43)).alloc (.cells #[.int .i64 1, .int .i64 13, .int .i64 1, .int .i64 0, .int .u64 0, .int .i64 0, .int .i64 4, .int .i64 5, .int .i64 0, .bool true, .int .i64 0, .int .u64 0, .slice none 0 0] 43))).heap.size ((((((w.alloc (.cells #[.int .i64 0, .int .i64 11, .int .i64 1, .int .i64 0, .int .u64 0, .int .i64 0, .int .i64 0, .int .i64 3, .int .i64 0, .bool true, .int .i64 0, .int .u64 0, .slice none 0 0] 43)).alloc (.cells #[.int .i64 1, .int .i64 13, .int .i64 1, .int .i64 0, .int .u64 0, .int .i64 0, .int .i64 1, .int .i64 2, .int .i64 0, .bool false, .int .i64 0, .int .u64 0, .slice none 0 0] 43)).alloc (.cells #[.int .i64 1, .int .i64 13, .int .i64 1, .int .i64 0, .int .u64 0, .int .i64 0, .int .i64 1, .int .i64 2, .int .i64 0, .bool true, .int .i64 0, .int .u64 0, .slice none 0 0] 43)).alloc (.cells #[.int .i64 1, .int .i64 13, .int .i64 1, .int .i64 0, .int .u64 0, .int .i64 0, .int .i64 4, .int .i64 5, .int .i64 0, .bool false, .int .i64 0, .int .u64 0, .slice none 0 0] 43)).alloc (.cells #[.int .i64 1, .int .i64 13, .int .i64 1, .int .i64 0, .int .u64 0, .int .i64 0, .int .i64 4, .int .i64 5, .int .i64 0, .bool true, .int .i64 0, .int .u64 0, .slice none 0 0] 43))) W) : FA w.heap.size W ∧ FB w.heap.size W ∧ FC w.heap.size W ∧ FD w.heap.size W ∧ FE w.heap.size W ∧ Below w.heap.size w W := five_box w (clAdd 0 1 0 3 true) (clAsk 1 1 1 2 false) (clAsk 1 1 1 2 true) (clAsk 1 1 4 5 false) (clAsk 1 1 4 5 true) W h

set_option maxHeartbeats 16000000 in
theorem shown_any (w : World) (hT : Tab w) : Calls Tryz.prog 8 #[] w fun e w' => e = .returned (.bool true) ∧ Below w.heap.size w w' := by
  have B5 := Lib.hid (fiveAt w _ (Below.refl ((((((w.alloc (.cells #[.int .i64 0, .int .i64 11, .int .i64 1, .int .i64 0, .int .u64 0, .int .i64 0, .int .i64 0, .int .i64 3, .int .i64 0, .bool true, .int .i64 0, .int .u64 0, .slice none 0 0] 43)).alloc (.cells #[.int .i64 1, .int .i64 13, .int .i64 1, .int .i64 0, .int .u64 0, .int .i64 0, .int .i64 1, .int .i64 2, .int .i64 0, .bool false, .int .i64 0, .int .u64 0, .slice none 0 0] 43)).alloc (.cells #[.int .i64 1, .int .i64 13, .int .i64 1, .int .i64 0, .int .u64 0, .int .i64 0, .int .i64 1, .int .i64 2, .int .i64 0, .bool true, .int .i64 0, .int .u64 0, .slice none 0 0] 43)).alloc (.cells #[.int .i64 1, .int .i64 13, .int .i64 1, .int .i64 0, .int .u64 0, .int .i64 0, .int .i64 4, .int .i64 5, .int .i64 0, .bool false, .int .i64 0, .int .u64 0, .slice none 0 0] 43)).alloc (.cells #[.int .i64 1, .int .i64 13, .int .i64 1, .int .i64 0, .int .u64 0, .int .i64 0, .int .i64 4, .int .i64 5, .int .i64 0, .bool true, .int .i64 0, .int .u64 0, .slice none 0 0] 43))).heap.size ((((((w.alloc (.cells #[.int .i64 0, .int .i64 11, .int .i64 1, .int .i64 0, .int .u64 0, .int .i64 0, .int .i64 0, .int .i64 3, .int .i64 0, .bool true, .int .i64 0, .int .u64 0, .slice none 0 0] 43)).alloc (.cells #[.int .i64 1, .int .i64 13, .int .i64 1, .int .i64 0, .int .u64 0, .int .i64 0, .int .i64 1, .int .i64 2, .int .i64 0, .bool false, .int .i64 0, .int .u64 0, .slice none 0 0] 43)).alloc (.cells #[.int .i64 1, .int .i64 13, .int .i64 1, .int .i64 0, .int .u64 0, .int .i64 0, .int .i64 1, .int .i64 2, .int .i64 0, .bool true, .int .i64 0, .int .u64 0, .slice none 0 0] 43)).alloc (.cells #[.int .i64 1, .int .i64 13, .int .i64 1, .int .i64 0, .int .u64 0, .int .i64 0, .int .i64 4, .int .i64 5, .int .i64 0, .bool false, .int .i64 0, .int .u64 0, .slice none 0 0] 43)).alloc (.cells #[.int .i64 1, .int .i64 13, .int .i64 1, .int .i64 0, .int .u64 0, .int .i64 0, .int .i64 4, .int .i64 5, .int .i64 0, .bool true, .int .i64 0, .int .u64 0, .slice none 0 0] 43))))).2.2.2.2.2
  have K := Lib.hid (fiveAt w)
  have T5 := Lib.hid (hT.below B5.out (Nat.le_refl _))
  clear hT
  go_enter Tryz.func8, Tryz.ntmps8
  go_upto_region 11 with (fail)
  have HS : Hid (w.heap.size ≤ ((((((w.alloc (.cells #[.int .i64 0, .int .i64 11, .int .i64 1, .int .i64 0, .int .u64 0, .int .i64 0, .int .i64 0, .int .i64 3, .int .i64 0, .bool true, .int .i64 0, .int .u64 0, .slice none 0 0] 43)).alloc (.cells #[.int .i64 1, .int .i64 13, .int .i64 1, .int .i64 0, .int .u64 0, .int .i64 0, .int .i64 1, .int .i64 2, .int .i64 0, .bool false, .int .i64 0, .int .u64 0, .slice none 0 0] 43)).alloc (.cells #[.int .i64 1, .int .i64 13, .int .i64 1, .int .i64 0, .int .u64 0, .int .i64 0, .int .i64 1, .int .i64 2, .int .i64 0, .bool true, .int .i64 0, .int .u64 0, .slice none 0 0] 43)).alloc (.cells #[.int .i64 1, .int .i64 13, .int .i64 1, .int .i64 0, .int .u64 0, .int .i64 0, .int .i64 4, .int .i64 5, .int .i64 0, .bool false, .int .i64 0, .int .u64 0, .slice none 0 0] 43)).alloc (.cells #[.int .i64 1, .int .i64 13, .int .i64 1, .int .i64 0, .int .u64 0, .int .i64 0, .int .i64 4, .int .i64 5, .int .i64 0, .bool true, .int .i64 0, .int .u64 0, .slice none 0 0] 43))).heap.size) := Lib.hid B5.out.size
  generalize (((((w.alloc (.cells #[.int .i64 0, .int .i64 11, .int .i64 1, .int .i64 0, .int .u64 0, .int .i64 0, .int .i64 0, .int .i64 3, .int .i64 0, .bool true, .int .i64 0, .int .u64 0, .slice none 0 0] 43)).alloc (.cells #[.int .i64 1, .int .i64 13, .int .i64 1, .int .i64 0, .int .u64 0, .int .i64 0, .int .i64 1, .int .i64 2, .int .i64 0, .bool false, .int .i64 0, .int .u64 0, .slice none 0 0] 43)).alloc (.cells #[.int .i64 1, .int .i64 13, .int .i64 1, .int .i64 0, .int .u64 0, .int .i64 0, .int .i64 1, .int .i64 2, .int .i64 0, .bool true, .int .i64 0, .int .u64 0, .slice none 0 0] 43)).alloc (.cells #[.int .i64 1, .int .i64 13, .int .i64 1, .int .i64 0, .int .u64 0, .int .i64 0, .int .i64 4, .int .i64 5, .int .i64 0, .bool false, .int .i64 0, .int .u64 0, .slice none 0 0] 43)).alloc (.cells #[.int .i64 1, .int .i64 13, .int .i64 1, .int .i64 0, .int .u64 0, .int .i64 0, .int .i64 4, .int .i64 5, .int .i64 0, .bool true, .int .i64 0, .int .u64 0, .slice none 0 0] 43)) = w5 at *
  have KT : Hid (∀ W, Below w5.heap.size w5 W → Tab W) := Lib.hid fun W h => T5.out.below h (Nat.le_refl _)
  have H5 := Lib.hid (Below.refl w5.heap.size w5)
  obtain ⟨a0, a1, a2, a3, a4, a5, a6, a7, a8, a9, a10, a11, a12⟩ := (K.out _ H5.out).1
  obtain ⟨b0, b1, b2, b3, b4, b5, b6, b7, b8, b9, b10, b11, b12⟩ := (K.out _ H5.out).2.1
  go_wp2_with (first
    | (go_at_call 11; ((with_reducible refine (endsB w5 T5.out).mono ?_); rintro e w6 ⟨bb, bo, d, Ae, c, rfl, hc, hb⟩; have H6 := Lib.hid (hb); have T6 := Lib.hid (KT.out _ H6.out); have L6 := Lib.hid (fun (W : World) (h : Below w6.heap.size w6 W) => cellL hc h); clear hc; clear a0 a1 a2 a3 a4 a5 a6 a7 a8 a9 a10 a11 a12; clear b0 b1 b2 b3 b4 b5 b6 b7 b8 b9 b10 b11 b12; obtain ⟨a0, a1, a2, a3, a4, a5, a6, a7, a8, a9, a10, a11, a12⟩ := (K.out _ H6.out).1; obtain ⟨b0, b1, b2, b3, b4, b5, b6, b7, b8, b9, b10, b11, b12⟩ := (K.out _ H6.out).2.1; clear hb))
    | (go_at_call 14; ((with_reducible refine (ordB w6 T6.out).mono ?_); rintro e w7 ⟨rfl, hb⟩; have H7 := Lib.hid (H6.out.trans (hb.mono H6.out.size)); have T7 := Lib.hid (KT.out _ H7.out); have P7 := Lib.hid (hb); clear a0 a1 a2 a3 a4 a5 a6 a7 a8 a9 a10 a11 a12; clear b0 b1 b2 b3 b4 b5 b6 b7 b8 b9 b10 b11 b12; obtain ⟨a0, a1, a2, a3, a4, a5, a6, a7, a8, a9, a10, a11, a12⟩ := (K.out _ H7.out).1; obtain ⟨c0, c1, c2, c3, c4, c5, c6, c7, c8, c9, c10, c11, c12⟩ := (K.out _ H7.out).2.2.1; clear hb))
    | (go_at_call 14; ((with_reducible refine (ordC w7 T7.out).mono ?_); rintro e w8 ⟨rfl, hb⟩; have H8 := Lib.hid (H7.out.trans (hb.mono H7.out.size)); have T8 := Lib.hid (KT.out _ H8.out); have P8 := Lib.hid (P7.out.trans (hb.mono P7.out.size)); clear a0 a1 a2 a3 a4 a5 a6 a7 a8 a9 a10 a11 a12; clear c0 c1 c2 c3 c4 c5 c6 c7 c8 c9 c10 c11 c12; obtain ⟨a0, a1, a2, a3, a4, a5, a6, a7, a8, a9, a10, a11, a12⟩ := (K.out _ H8.out).1; obtain ⟨d0, d1, d2, d3, d4, d5, d6, d7, d8, d9, d10, d11, d12⟩ := (K.out _ H8.out).2.2.2.1; clear hb))
    | (go_at_call 14; ((with_reducible refine (ordD w8 T8.out).mono ?_); rintro e w9 ⟨rfl, hb⟩; have H9 := Lib.hid (H8.out.trans (hb.mono H8.out.size)); have T9 := Lib.hid (KT.out _ H9.out); have P9 := Lib.hid (P8.out.trans (hb.mono P8.out.size)); clear a0 a1 a2 a3 a4 a5 a6 a7 a8 a9 a10 a11 a12; clear d0 d1 d2 d3 d4 d5 d6 d7 d8 d9 d10 d11 d12; obtain ⟨a0, a1, a2, a3, a4, a5, a6, a7, a8, a9, a10, a11, a12⟩ := (K.out _ H9.out).1; obtain ⟨e0, e1, e2, e3, e4, e5, e6, e7, e8, e9, e10, e11, e12⟩ := (K.out _ H9.out).2.2.2.2.1; clear hb))
    | (go_at_call 14; ((with_reducible refine (ordE w9 T9.out).mono ?_); rintro e w10 ⟨rfl, hb⟩; have H10 := Lib.hid (H9.out.trans (hb.mono H9.out.size)); have T10 := Lib.hid (KT.out _ H10.out); have P10 := Lib.hid (P9.out.trans (hb.mono P9.out.size)); have z0 := L6.out _ P10.out; clear a0 a1 a2 a3 a4 a5 a6 a7 a8 a9 a10 a11 a12; clear e0 e1 e2 e3 e4 e5 e6 e7 e8 e9 e10 e11 e12; clear hb))
    | (go_at_call 14; ((with_reducible refine (ordN w10 T10.out).mono ?_); rintro e w11 ⟨rfl, hb⟩; have H11 := Lib.hid (H10.out.trans (hb.mono H10.out.size)); have T11 := Lib.hid (KT.out _ H11.out); clear hb)))

  go_ret
  exact ⟨rfl, B5.out.trans (H11.out.mono B5.out.size)⟩
end Go.Proofs.YtpdfmfkoopdfgaaGreatDoor
end
