/- LEra0, LEra1, LEra2, LEra. -/
import Derived.Test.YtpdfmfkoopdfgaaGreatDoorB25
import Derived.Test.YtpdfmfkoopdfgaaGreatDoorB27
import Derived.Test.YtpdfmfkoopdfgaaGreatDoorB23
set_option linter.unusedVariables false
set_option linter.unusedSimpArgs false
section
namespace Go.Proofs.YtpdfmfkoopdfgaaGreatDoor
set_option maxRecDepth 100000
open Go.RowKit Aid Gr Hs LinP HeapP

theorem era1_any (n : Nw) (bx i : Nat) (w : World) (hx : w.cell? ⟨bx, 2, none⟩ = some (.int .i64 i)) (hok : NwOk w n) (hi : i < n.d.length) :
    Calls Tryz.prog 65 #[n.val, .pointer (some ⟨bx, 0, none⟩)] w fun e w' => e = .returned (.bool (!isD n.d i)) ∧ Below w.heap.size w w' := by
  obtain ⟨A, c, l, B, k, d⟩ := n
  show Calls Tryz.prog 65 #[.agg #[.slice A l.length c, .slice B d.length k], .pointer (some ⟨bx, 0, none⟩)] w _
  have hi' : i < d.length := hi
  obtain ⟨b, off, hB, hc⟩ := hok.2 (by rw [List.length_map]; exact Nat.lt_of_le_of_lt (Nat.zero_le _) hi')
  have hB' : B = some ⟨b, off, none⟩ := hB
  subst hB'
  have hd : d[i]? = some (isD d i) := by
    unfold isD
    rw [List.getD_eq_getElem?_getD, List.getElem?_eq_getElem hi']; rfl
  have c0 : w.cell? ⟨b, off + i, none⟩ = some (.bool (isD d i)) := hc i _ (by rw [List.getElem?_map]; show Option.map _ d[i]? = _; rw [hd]; rfl)
  show Calls _ _ _ _ fun e w' => e = .returned (.bool (!isD d i)) ∧ _
  generalize isD d i = x at c0
  have BA := (Below.refl w.heap.size w).alloc (Nat.le_refl _) (.cells #[.slice A l.length c, .slice (some ⟨b, off, none⟩) d.length k] 66)
  have x1 := cellL hx BA
  have c1 := cellL c0 BA
  have i0 : (0 : Int) ≤ (i : Int) := by omega
  have i1 : (i : Int) < (d.length : Int) := by omega
  have e0 : (w.alloc (.cells #[.slice A l.length c, .slice (some ⟨b, off, none⟩) d.length k] 66)).cell? ⟨w.heap.size, 1, none⟩ = some (.slice (some ⟨b, off, none⟩) d.length k) := by rw [World.cell?_alloc_new]; rfl
  have HB := Lib.hid BA
  clear hok hi hi' hc hd hx c0 BA hB
  go_enter Tryz.func65, Tryz.ntmps65
  go_wp2
  go_ret
  exact ⟨rfl, HB.out⟩
theorem era2_any (j bx i : Nat) (w : World) (hx : w.cell? ⟨bx, 2, none⟩ = some (.int .i64 i)) :
    Calls Tryz.prog 67 #[.int .i64 j, .pointer (some ⟨bx, 0, none⟩)] w fun e w' => e = .returned (.bool (decide (j = i))) ∧ w = w' := by
  by_cases h : j = i
  · subst h
    have hr : decide (j = j) = true := by simp
    rw [hr]
    go_enter Tryz.func67, Tryz.ntmps67
    go_wp2
    go_ret
    exact ⟨by simp, rfl⟩
  · have hr : decide (j = i) = false := by simpa using h
    have h2 : ((j : Int) == (i : Int)) = false := by rw [beq_eq_false_iff_ne]; omega
    rw [hr]
    go_enter Tryz.func67, Tryz.ntmps67
    go_wp2
    go_ret
    exact ⟨by simp, rfl⟩
end Go.Proofs.YtpdfmfkoopdfgaaGreatDoor
end
section
namespace Go.Proofs.YtpdfmfkoopdfgaaGreatDoor
set_option maxRecDepth 100000
open Go.RowKit Aid Gr Hs LinP HeapP

theorem own_blk {w w' : World} {base : Nat} {e : TypeId} {size : Nat} {v : Value} {n : Nat} {xs : List Value} (h : w.ownsRow base e size v n xs) (hb : ∀ g, v.ownBlock = some g → w'.heap[g]? = w.heap[g]?) : w'.ownsRow base e size v n xs := by
  obtain ⟨h1, h2⟩ := h
  rcases h2 with h2 | ⟨g, cap, cur, rfl, hg, hh, h3⟩
  · exact ⟨h1, .inl h2⟩
  · exact ⟨h1, .inr ⟨g, cap, cur, rfl, hg, (hb g rfl).trans hh, h3⟩⟩
theorem all_blk {Pd : Value → Prop} {v : Value} {w w' : World} (h : RowAll Pd v w) (hb : ∀ g, v.ownBlock = some g → w'.heap[g]? = w.heap[g]?) : RowAll Pd v w' := fun g hg j x hx =>
  h g hg j x ((World.cell?_of_block (w := w) (a := ⟨g, j, none⟩) (hb g hg)).symm.trans hx)
theorem cell_blk {w w' : World} {b o : Nat} {x : Value} (h : w.cell? ⟨b, o, none⟩ = some x) (hb : w'.heap[b]? = w.heap[b]?) : w'.cell? ⟨b, o, none⟩ = some x := (World.cell?_of_block (w := w) (a := ⟨b, o, none⟩) hb).trans h
/-- Rows of other kinds lie apart from the heap. -/
theorem MH.apart {w : World} {base hb : Nat} {vh : Value} {lh : List Mo} (hm : MH w base hb vh lh) {b0 : Nat} {e : TypeId} {size : Nat} {v : Value} {n : Nat} {xs : List Value} (ho : w.ownsRow b0 e size v n xs) (h1 : e ≠ 100) (h2 : e ≠ 103) : ∀ g, v.ownBlock = some g → g ≠ hb ∧ vh.ownBlock ≠ some g := fun g hg => by
  obtain ⟨c, fz, hc⟩ := own_row ho g hg
  refine ⟨fun q => ?_, fun q => ?_⟩
  · subst q
    rw [hm.box] at hc; injection hc with hc; injection hc with _ hc; exact h1 hc.symm
  · obtain ⟨c', fz', hc'⟩ := own_row hm.own g q
    rw [hc'] at hc; injection hc with hc; injection hc with _ hc; exact h2 hc.symm
theorem MH.grow {w w' : World} {base hb : Nat} {vh : Value} {lh : List Mo} (hm : MH w base hb vh lh) {b0 : Nat} {e : TypeId} {size : Nat} {v : Value} {n : Nat} {xs : List Value} (ho : w.ownsRow b0 e size v n xs) (h1 : e ≠ 100) (h2 : e ≠ 103) (hg : w.grownBy w' v.ownBlock) : MH w' base hb vh lh := by
  have ha := hm.apart ho h1 h2
  have hb1 : ∀ g, vh.ownBlock = some g → w'.heap[g]? = w.heap[g]? := fun g q => hg.block g (hm.own.lt g q).2 (fun q2 => (ha g q2.symm).2 q)
  exact ⟨(hg.block hb hm.bw (fun q => (ha hb q.symm).1 rfl)).trans hm.box, own_blk hm.own hb1, all_blk hm.kind hb1, hm.low⟩
theorem MH.box_one {w : World} {base hb : Nat} {vh : Value} {lh : List Mo} (hm : MH w base hb vh lh) {o : Nat} {x : Value} (hx : w.cell? ⟨hb, o, none⟩ = some x) : o = 0 ∧ x = vh := by
  rw [Lib.cell_of_heap hm.box] at hx
  cases o with
  | zero => simp at hx; exact ⟨rfl, hx.symm⟩
  | succ o => simp at hx
/-- Where a cell that is none of the heap's lies. -/
theorem MH.off {w w' : World} {base hb : Nat} {vh : Value} {lh : List Mo} (hm : MH w base hb vh lh) (hk : AK hb hb vh w w') {b : Nat} (h1 : b < w.heap.size) (h2 : b ≠ hb) (h3 : vh.ownBlock ≠ some b) : w'.heap[b]? = w.heap[b]? := hk.block b h1 h2 h2 h3
theorem not_mo_u64 (n : Int) : ¬ IsMo (.int .u64 n) := by
  rintro (⟨m, e⟩ | ⟨m, e⟩) <;> cases e
theorem not_mo_sl {a : Option Addr} {n c : Nat} : ¬ IsMo (.slice a n c) := by
  rintro (⟨m, e⟩ | ⟨m, e⟩) <;> cases e
/-- A state lies apart from the heap's row. -/
def Apart (vh : Value) (n : Nw) : Prop := n.d ≠ [] → ∀ a, n.B = some a → vh.ownBlock ≠ some a.block
theorem NwOk.pop {w w' : World} {base hb : Nat} {vh : Value} {lh : List Mo} {n : Nw} (h : NwOk w n) (hm : MH w base hb vh lh) (hs : Apart vh n) (hk : AK hb hb vh w w') : NwOk w' n := by
  obtain ⟨A0, c0, hv⟩ := hm.form
  refine ⟨⟨h.1.1, h.1.2.1, fun hp => ?_⟩, fun hp => ?_⟩
  · obtain ⟨b, off, hA, hc⟩ := h.1.2.2 hp
    obtain ⟨x0, x1, x2⟩ := hc 0 n.l[0] (List.getElem?_eq_getElem hp)
    have hne : b ≠ hb := fun q => by
      subst q
      have := (hm.box_one x0).2
      rw [hv] at this; cases this
    have hne2 : vh.ownBlock ≠ some b := fun q => not_mo_u64 _ (hm.kind b q _ _ x2)
    have hbl := hm.off hk (World.block_lt_of_cell? _ _ x0) hne hne2
    exact ⟨b, off, hA, fun i a hi => ⟨cell_blk (hc i a hi).1 hbl, cell_blk (hc i a hi).2.1 hbl, cell_blk (hc i a hi).2.2 hbl⟩⟩
  · obtain ⟨b, off, hB, hc⟩ := h.2 hp
    have hd : n.d ≠ [] := fun q => by rw [q] at hp; simp at hp
    have x0 := hc 0 _ (List.getElem?_eq_getElem hp)
    have hne : b ≠ hb := fun q => by
      subst q
      have := (hm.box_one x0).2
      rw [hv, List.getElem_map] at this; cases this
    have hbl := hm.off hk (World.block_lt_of_cell? _ _ x0) hne (hs hd _ hB)
    exact ⟨b, off, hB, fun j x hj => cell_blk (hc j x hj) hbl⟩
theorem from_pop {w w' : World} {base hb : Nat} {vh : Value} {lh : List Mo} {F : Option Addr} {cur : List Nw} (h : Sl w F (nflat cur)) (hm : MH w base hb vh lh) (hk : AK hb hb vh w w') : Sl w' F (nflat cur) := fun hp => by
  obtain ⟨b, off, hA, hc⟩ := h hp
  have hl : 0 < cur.length := by rw [nflat_length] at hp; omega
  obtain ⟨g1, g2⟩ := nflat_get cur 0 cur[0] (List.getElem?_eq_getElem hl)
  have x0 := hc _ _ g1
  have x1 := hc _ _ g2
  have hne : b ≠ hb := fun q => by
    subst q
    have := (hm.box_one x1).1
    omega
  have hne2 : vh.ownBlock ≠ some b := fun q => by
    have := hm.kind b q _ _ x0
    unfold Nw.v0 at this
    exact not_mo_sl this
  have hbl := hm.off hk (World.block_lt_of_cell? _ _ x0) hne hne2
  exact ⟨b, off, hA, fun j x hj => cell_blk (hc j x hj) hbl⟩
def IsI (x : Value) : Prop := ∃ n, x = .int .i64 n
/-- Numbers are written where live points lie. -/
theorem NwOk.growI {w w2 : World} {v : Value} {n : Nw} (hr : RowAll IsI v w) (h : NwOk w n) (hg : w.grownBy w2 v.ownBlock) : NwOk w2 n := by
  refine ⟨⟨h.1.1, h.1.2.1, fun hp => ?_⟩, fun hp => ?_⟩
  · obtain ⟨b, off, hA, hc⟩ := h.1.2.2 hp
    obtain ⟨x0, x1, x2⟩ := hc 0 n.l[0] (List.getElem?_eq_getElem hp)
    have hbl := hg.block b (World.block_lt_of_cell? _ _ x0) (fun q => by obtain ⟨m, e⟩ := hr b q.symm _ _ x2; cases e)
    exact ⟨b, off, hA, fun i a hi => ⟨cell_blk (hc i a hi).1 hbl, cell_blk (hc i a hi).2.1 hbl, cell_blk (hc i a hi).2.2 hbl⟩⟩
  · obtain ⟨b, off, hB, hc⟩ := h.2 hp
    refine ⟨b, off, hB, fun j x hj => ?_⟩
    have x0 := hc j x hj
    obtain ⟨q, _, rfl⟩ := List.mem_map.1 (List.mem_of_getElem? hj)
    exact cell_blk x0 (hg.block b (World.block_lt_of_cell? _ _ x0) (fun q => by obtain ⟨m, e⟩ := hr b q.symm _ _ x0; cases e))
theorem from_growI {w w2 : World} {v : Value} {F : Option Addr} {cur : List Nw} (hr : RowAll IsI v w) (h : Sl w F (nflat cur)) (hg : w.grownBy w2 v.ownBlock) : Sl w2 F (nflat cur) := fun hp => by
  obtain ⟨b, off, hA, hc⟩ := h hp
  have hl : 0 < cur.length := by rw [nflat_length] at hp; omega
  obtain ⟨g1, _⟩ := nflat_get cur 0 cur[0] (List.getElem?_eq_getElem hl)
  have x0 := hc _ _ g1
  have hbl := hg.block b (World.block_lt_of_cell? _ _ x0) (fun q => by obtain ⟨m, e⟩ := hr b q.symm _ _ x0; unfold Nw.v0 at e; cases e)
  exact ⟨b, off, hA, fun j x hj => cell_blk (hc j x hj) hbl⟩
theorem below_of_gb {B : Nat} {v : Value} {w w' : World} (hg : w.grownBy w' v.ownBlock) (hB : B ≤ w.heap.size) (hl : ∀ g, v.ownBlock = some g → B ≤ g) : Below B w w' :=
  ⟨hg.os, hg.tape, hg.output, hg.size, fun k hk => hg.block k (by omega) (fun q => by have := hl k q.symm; omega)⟩
theorem own_slk2 {w : World} {base : Nat} {e : TypeId} {size : Nat} {A : Option Addr} {n n' c : Nat} {xs : List Value} (h : w.ownsRow base e size (.slice A n c) n' xs) : Sl w A xs := fun hp => by
  rcases h.2 with ⟨_, h1⟩ | ⟨g, cap, cur, hv, _⟩
  · have := h.1
    rw [h1, Nat.zero_mul] at this
    omega
  · injection hv with hA
    subst hA
    refine ⟨g, 0, rfl, fun j u hu => ?_⟩
    have := World.ownsRow.cells h (g := g) rfl j u hu
    rw [addr_add] at this
    exact this
end Go.Proofs.YtpdfmfkoopdfgaaGreatDoor
end
section
namespace Go.Proofs.YtpdfmfkoopdfgaaGreatDoor
set_option maxRecDepth 100000
open Go.RowKit Aid Gr Hs LinP HeapP

/-- What an era is handed. -/
structure EIn (w : World) (P : Option Addr) (ps : List Pt) (fr : List Nw) (K : Nat) : Prop where
  hK : K ≤ 900
  tab : Tab w
  pts : Sl w P (Hs.flat ps)
  ok : ∀ n ∈ fr, NwOk w n
  gs : ∀ n ∈ fr, GS (sysOf ps) K n.st
  fine : ∀ p ∈ ps, (opOf p).Fine
  small : ps.length ≤ 100000
  few : fr.length ≤ 1000000000000
  bound : ∀ pre rest L cur, PreCut (sysOf ps) pre rest → Been (sysOf ps) (sts fr) pre L cur → ∃ R : St (List Arc) → Prop, (∀ l : List (St (List Arc)), l.Nodup → (∀ s ∈ l, R s) → l.length ≤ 1000000000000) ∧ ∀ t ∈ cur, ∀ s, LPath (sysOf ps) L t s → R s
/-- Between the rounds. -/
structure EInv (w : World) (ps : List Pt) (fr : List Nw) (K : Nat) (wr : World) (F : Option Addr) (fc : Nat) (cur : List Nw) (Lv : Option Addr) (lc : Nat) (L : List Nat) (vh : Value) (lh : List Mo) (pre rest hr : List Ev) : Prop where
  heap : MH wr w.heap.size (w.heap.size + 1) vh lh
  perm : lh.Perm (hr.map (moOf (sysOf ps)))
  low : Heap Mo.key Mo.d lh lh.length
  cut : PreCut (sysOf ps) pre rest
  been : Been (sysOf ps) (sts fr) pre L (sts cur)
  live : wr.ownsRow w.heap.size 3 1 (.slice Lv L.length lc) L.length (nats L)
  lkind : RowAll IsI (.slice Lv L.length lc) wr
  frm : Sl wr F (nflat cur)
  ok : ∀ n ∈ cur, NwOk wr n
  gs : ∀ n ∈ cur, GS (sysOf ps) K n.st
  apart : ∀ n ∈ cur, Apart vh n
  few : cur.length ≤ 1000000000000
  bel : Below w.heap.size w wr
theorem moments_le (ps : List Pt) : (moments (sysOf ps)).length ≤ 2 * ps.length := momTo_length ps.length
theorem EInv.livelen {hr : List Ev} {w : World} {P : Option Addr} {ps : List Pt} {fr : List Nw} {K : Nat} {wr : World} {F : Option Addr} {fc : Nat} {cur : List Nw} {Lv : Option Addr} {lc : Nat} {L : List Nat} {vh : Value} {lh : List Mo} {pre rest : List Ev} (h : EInv w ps fr K wr F fc cur Lv lc L vh lh pre rest hr) (he : EIn w P ps fr K) : (∀ i ∈ L, i < ps.length) ∧ L.length ≤ 200000 := by
  have h1 := h.cut.live h.been
  have h2 := moments_le ps
  have h3 := he.small
  exact ⟨h1.1, by omega⟩
theorem EInv.len {w : World} {P : Option Addr} {ps : List Pt} {fr : List Nw} {K : Nat} {wr : World} {F : Option Addr} {fc : Nat} {cur : List Nw} {Lv : Option Addr} {lc : Nat} {L : List Nat} {vh : Value} {lh : List Mo} {pre rest : List Ev} (h : EInv w ps fr K wr F fc cur Lv lc L vh lh pre rest rest) (he : EIn w P ps fr K) : lh.length ≤ 200000 := by
  have h1 := h.perm.length_eq
  have h2 := h.cut.perm.length_eq
  have h3 := moments_le ps
  have h4 := he.small
  rw [List.length_map] at h1
  rw [List.length_append] at h2
  omega
/-- grown, where an era calls it. -/
theorem era_grown {w : World} {P : Option Addr} {cp np : Nat} {ps : List Pt} {fr : List Nw} {K : Nat} (he : EIn w P ps fr K) (hnp : np = ps.length) {wr : World} {F : Option Addr} {fc : Nat} {cur : List Nw} {Lv : Option Addr} {lc : Nat} {L : List Nat} {vh : Value} {lh : List Mo} {pre rest hr : List Ev} (h : EInv w ps fr K wr F fc cur Lv lc L vh lh pre rest hr) {W : World} (hW : Below wr.heap.size wr W) :
    Calls Tryz.prog 64 #[.slice P np cp, .slice Lv L.length lc, .slice F cur.length fc] W fun e w' => ∃ B d out, e = .returned (.slice B out.length d) ∧ Nows w' W.heap.size (.slice B out.length d) out ∧ Grown (sysOf ps) L (sts cur) (sts out) ∧ Below W.heap.size W w' ∧ (∀ n ∈ out, GS (sysOf ps) K n.st) ∧ (∀ n ∈ out, ∀ a, n.B = some a → W.heap.size ≤ a.block) ∧ out.length ≤ 1000000000000 := by
  obtain ⟨R, hR, hpath⟩ := he.bound pre rest L (sts cur) h.cut h.been
  obtain ⟨hL, hLn⟩ := h.livelen he
  have hb : Below w.heap.size w W := h.bel.trans (hW.mono h.bel.size)
  have gs : ∀ s ∈ sts cur, GS (sysOf ps) K s := fun s hs => by
    obtain ⟨n, hn, rfl⟩ := List.mem_map.1 hs
    exact h.gs n hn
  have hs := he.small
  refine (grown_any P cp ps Lv lc L F fc cur.length np L.length cur W K 1000000000000 he.hK (Nat.le_refl _) R hR rfl hnp rfl (he.tab.below hb (Nat.le_refl _)) (he.pts.below hb (Nat.le_refl _)) ((own_slk2 h.live).below hW (Nat.le_refl _)) (h.frm.below hW (Nat.le_refl _)) (fun n hn => (h.ok n hn).below hW (Nat.le_refl _)) gs hpath hL he.fine (by omega) (by omega) h.few).mono ?_
  rintro e w' ⟨v, out, rfl, h1, h2, h3, h4, h5, h6⟩
  obtain ⟨B, d, rfl⟩ := own_slice h1
  have hp : ∀ s ∈ sts out, ∃ t ∈ sts cur, LPath (sysOf ps) L t s := h4.reach
  refine ⟨B, d, out, rfl, ⟨h1, h2, h3⟩, h4, h5, fun n hn => ?_, h6, ?_⟩
  · obtain ⟨t, ht, hpt⟩ := hp n.st (List.mem_map.2 ⟨n, hn, rfl⟩)
    exact (gs t ht).path hL hpt
  · have := hR (sts out) h4.nodup (fun s hs => by
      obtain ⟨t, ht, hpt⟩ := hp s hs
      exact hpath t ht s hpt)
    unfold sts at this
    rwa [List.length_map] at this
theorem keptN_sts (out : List Nw) (i : Nat) : sts (keptN out fun n => !isD n.d i) = (sts out).filter fun s => isD s.2 i := by
  unfold sts keptN
  rw [List.filter_map]
  congr 1
  apply List.filter_congr
  intro n _
  simp [Nw.st]
theorem keptX_eq (L : List Nat) (i : Nat) : keptX L (fun j => decide (j = i)) = L.filter fun j => decide (j ≠ i) := by
  unfold keptX
  apply List.filter_congr
  intro j _
  by_cases h : j = i <;> simp [h]
/-- Behind heap.Pop. -/
theorem EInv.pop {w : World} {ps : List Pt} {fr : List Nw} {K : Nat} {wr : World} {F : Option Addr} {fc : Nat} {cur : List Nw} {Lv : Option Addr} {lc : Nat} {L : List Nat} {vh : Value} {lh : List Mo} {pre rest hr : List Ev} (h : EInv w ps fr K wr F fc cur Lv lc L vh lh pre rest hr)
    {w2 : World} {v' : Value} {l' : List Mo} {hr' : List Ev} (hm : MH w2 w.heap.size (w.heap.size + 1) v' l') (hk : AK (w.heap.size + 1) (w.heap.size + 1) vh wr w2) (hv : v'.ownBlock = vh.ownBlock) (hp : l'.Perm (hr'.map (moOf (sysOf ps)))) (hl : Heap Mo.key Mo.d l' l'.length) :
    EInv w ps fr K w2 F fc cur Lv lc L v' l' pre rest hr' := by
  have ha := h.heap.apart h.live (by decide) (by decide)
  have hb1 : ∀ g, (Value.slice Lv L.length lc).ownBlock = some g → w2.heap[g]? = wr.heap[g]? := fun g q => hk.block g (h.live.lt g q).2 (ha g q).1 (ha g q).1 (ha g q).2
  exact ⟨hm, hp, hl, h.cut, h.been, own_blk h.live hb1, all_blk h.lkind hb1, from_pop h.frm h.heap hk, fun n hn => (h.ok n hn).pop h.heap (h.apart n hn) hk, h.gs, fun n hn hd a hB => by rw [hv]; exact h.apart n hn hd a hB, h.few, h.bel.trans (hk.below h.bel.size (by omega) (by omega) (fun g hg => (h.heap.own.lt g hg).1))⟩
theorem MH.later {w W : World} {base hb : Nat} {v : Value} {l : List Mo} (h : MH w base hb v l) (hW : Below w.heap.size w W) : MH W base hb v l :=
  ⟨heapL h.box hW, own_below h.own hW, row_below h.kind (fun g hg => (h.own.lt g hg).2) hW, h.low⟩
theorem EInv.later {w : World} {ps : List Pt} {fr : List Nw} {K : Nat} {wr : World} {F : Option Addr} {fc : Nat} {cur : List Nw} {Lv : Option Addr} {lc : Nat} {L : List Nat} {vh : Value} {lh : List Mo} {pre rest hr : List Ev} (h : EInv w ps fr K wr F fc cur Lv lc L vh lh pre rest hr) {W : World} (hW : Below wr.heap.size wr W) : EInv w ps fr K W F fc cur Lv lc L vh lh pre rest hr :=
  ⟨h.heap.later hW, h.perm, h.low, h.cut, h.been, own_below h.live hW, row_below h.lkind (fun g hg => (h.live.lt g hg).2) hW, h.frm.below hW (Nat.le_refl _), fun n hn => (h.ok n hn).below hW (Nat.le_refl _), h.gs, h.apart, h.few, h.bel.trans (hW.mono h.bel.size)⟩
/-- A point begins. -/
theorem EInv.beg {w : World} {ps : List Pt} {fr : List Nw} {K : Nat} {wr : World} {F : Option Addr} {fc : Nat} {cur : List Nw} {Lv : Option Addr} {lc : Nat} {L : List Nat} {vh : Value} {lh : List Mo} {pre rest hr : List Ev} (h : EInv w ps fr K wr F fc cur Lv lc L vh lh pre rest hr) {i : Nat} (hp : rest.Perm ((i, false) :: hr)) (hm : ∀ b ∈ rest, ¬ evLess (sysOf ps) b (i, false))
    {w2 : World} {A : Option Addr} {c : Nat} (ho : w2.ownsRow w.heap.size 3 1 (.slice A (L.length + 1) c) (L.length + 1) (nats L ++ [.int .i64 i])) (hk : RowAll IsI (.slice A (L.length + 1) c) w2) (hg : wr.grownBy w2 (Value.slice Lv L.length lc).ownBlock) :
    EInv w ps fr K w2 F fc cur A c (L ++ [i]) vh lh (pre ++ [(i, false)]) hr hr := by
  have hl : (L ++ [i]).length = L.length + 1 := by simp
  refine ⟨h.heap.grow h.live (by decide) (by decide) hg, h.perm, h.low, h.cut.next hp hm, .beg i h.been, ?_, ?_, from_growI h.lkind h.frm hg, fun n hn => (h.ok n hn).growI h.lkind hg, h.gs, h.apart, h.few, h.bel.trans (below_of_gb hg h.bel.size (fun g q => (h.live.lt g q).1))⟩
  · rw [hl, nats_append]; exact ho
  · rw [hl]; exact hk
/-- A point ends: behind both deletions. -/
theorem EInv.stop {w : World} {ps : List Pt} {fr : List Nw} {K : Nat} {wr : World} {F : Option Addr} {fc : Nat} {cur : List Nw} {Lv : Option Addr} {lc : Nat} {L : List Nat} {vh : Value} {lh : List Mo} {pre rest hr : List Ev} (h : EInv w ps fr K wr F fc cur Lv lc L vh lh pre rest hr) {i : Nat} (hp : rest.Perm ((i, true) :: hr)) (hm : ∀ b ∈ rest, ¬ evLess (sysOf ps) b (i, true))
    {W1 W2 W3 : World} {base : Nat} {A B : Option Addr} {c d nn : Nat} {out : List Nw} (hb1 : Below wr.heap.size wr W1) (hlow : wr.heap.size ≤ base) (hgr : Grown (sysOf ps) L (sts cur) (sts out)) (hn : Nows W1 base (.slice A nn c) out) (hgs : ∀ n ∈ out, GS (sysOf ps) K n.st) (hnb : ∀ n ∈ out, ∀ a, n.B = some a → wr.heap.size ≤ a.block) (hfew : out.length ≤ 1000000000000)
    (hn2 : Nows W2 base (.slice B (keptN out fun n => !isD n.d i).length d) (keptN out fun n => !isD n.d i)) (hg2 : W1.grownBy W2 (Value.slice A nn c).ownBlock)
    {X : Option Addr} {x : Nat} (ho3 : W3.ownsRow w.heap.size 3 1 (.slice X (keptX L fun j => decide (j = i)).length x) (keptX L fun j => decide (j = i)).length (nats (keptX L fun j => decide (j = i)))) (hv3 : (Value.slice X (keptX L fun j => decide (j = i)).length x).ownBlock = (Value.slice Lv L.length lc).ownBlock) (hg3 : W2.grownBy W3 (Value.slice Lv L.length lc).ownBlock) (hk3 : RowAll IsI (.slice Lv L.length lc) W3) :
    EInv w ps fr K W3 B d (keptN out fun n => !isD n.d i) X x (L.filter fun j => decide (j ≠ i)) vh lh (pre ++ [(i, true)]) hr hr := by
  have l1 := h.heap.later hb1
  have v1 := own_below h.live hb1
  have l2 := l1.grow hn.own (by decide) (by decide) hg2
  -- the live ones lie apart from the states' row
  have hap : ∀ g, (Value.slice Lv L.length lc).ownBlock = some g → some g ≠ (Value.slice A nn c).ownBlock := fun g q e => by
    obtain ⟨c1, f1, h1⟩ := own_row v1 g q
    obtain ⟨c2, f2, h2⟩ := own_row hn.own g e.symm
    rw [h1] at h2; injection h2 with h2; injection h2 with _ h2; cases h2
  have v2 := own_blk v1 (fun g q => hg2.block g (v1.lt g q).2 (hap g q))
  have k1 := row_below h.lkind (fun g hg => (h.live.lt g hg).2) hb1
  have k2 := all_blk k1 (fun g q => hg2.block g (v1.lt g q).2 (hap g q))
  have hbl : Below w.heap.size w W1 := h.bel.trans (hb1.mono h.bel.size)
  have hlow2 : ∀ g, (Value.slice A nn c).ownBlock = some g → w.heap.size ≤ g := fun g q => Nat.le_trans h.bel.size (Nat.le_trans hlow (hn.own.lt g q).1)
  have hbl2 : Below w.heap.size w W2 := hbl.trans (below_of_gb hg2 hbl.size hlow2)
  have hmem : ∀ n ∈ keptN out (fun n => !isD n.d i), n ∈ out := fun n q => (List.mem_filter.1 q).1
  refine ⟨l2.grow v2 (by decide) (by decide) hg3, h.perm, h.low, h.cut.next hp hm, ?_, ?_, ?_, from_growI k2 (own_slk2 hn2.own) hg3, fun n q => (hn2.ok n q).growI k2 hg3, fun n q => hgs n (hmem n q), fun n q _ a hB e => ?_, Nat.le_trans (keptN_le _ _) hfew, hbl2.trans (below_of_gb hg3 hbl2.size (fun g q => (h.live.lt g q).1))⟩
  · rw [keptN_sts]; exact .stop i h.been hgr
  · rw [keptX_eq] at ho3; exact ho3
  · intro g hg j y hy
    rw [keptX_eq] at hv3
    exact hk3 g (hv3.symm.trans hg) j y hy
  · have h1 := hnb n (hmem n q) a hB
    have h2 := (h.heap.own.lt _ e).2
    omega
theorem call65 : ∀ args w, (callFunc 65 args).run Tryz.prog w = .ok (.enter 65 args) w := fun args w => callIn Tryz.func65 (by kernel_rfl) rfl args w
theorem call67 : ∀ args w, (callFunc 67 args).run Tryz.prog w = .ok (.enter 67 args) w := fun args w => callIn Tryz.func67 (by kernel_rfl) rfl args w
/-- The box of a moment. -/
def MBox (w : World) (bx : Nat) (e : Mo) : Prop := w.heap[bx]? = some (.cells #[.int .i64 e.t, .bool e.ends, .int .i64 e.i] 103 (0, 0))
theorem MBox.cell {w : World} {bx : Nat} {e : Mo} (h : MBox w bx e) : w.cell? ⟨bx, 2, none⟩ = some (.int .i64 e.i) := by
  rw [Lib.cell_of_heap h]; rfl
theorem MBox.later {w w' : World} {bx : Nat} {e : Mo} (h : MBox w bx e) (hb : Below w.heap.size w w') : MBox w' bx e := heapL h hb
theorem says65 {ps : List Pt} {K : Nat} {W : World} {base bx nn c : Nat} {A : Option Addr} {e : Mo} {out : List Nw} (hx : MBox W bx e) (hn : Nows W base (.slice A nn c) out) (hg : ∀ n ∈ out, GS (sysOf ps) K n.st) (hi : e.i < ps.length) :
    SaysN 65 #[.pointer (some ⟨bx, 0, none⟩)] (fun n => !isD n.d e.i) out ((Value.slice A nn c).ownBlock) W := fun W' n hW hm hok => by
  have hlt : bx < W.heap.size := lt_of_block hx
  have hne : some bx ≠ (Value.slice A nn c).ownBlock := fun q => by
    obtain ⟨c', fz, hc⟩ := own_row hn.own bx q.symm
    rw [hx] at hc; injection hc with hc; injection hc with _ hc; cases hc
  have hx' : MBox W' bx e := (hW.block bx hlt hne).trans hx
  exact era1_any n bx e.i W' hx'.cell hok (by have := (hg n hm).len; rw [show n.d.length = n.st.2.length from rfl, this]; exact hi)
theorem says67 {W : World} {base bx nn c : Nat} {A : Option Addr} {e : Mo} {L : List Nat} (hx : MBox W bx e) (hn : W.ownsRow base 3 1 (.slice A nn c) nn (nats L)) :
    SaysI 67 #[.pointer (some ⟨bx, 0, none⟩)] (fun j => decide (j = e.i)) ((Value.slice A nn c).ownBlock) W := fun W' j hW => by
  have hlt : bx < W.heap.size := lt_of_block hx
  have hne : some bx ≠ (Value.slice A nn c).ownBlock := fun q => by
    obtain ⟨c', fz, hc⟩ := own_row hn bx q.symm
    rw [hx] at hc; injection hc with hc; injection hc with _ hc; cases hc
  have hx' : MBox W' bx e := (hW.block bx hlt hne).trans hx
  exact era2_any j bx e.i W' hx'.cell
end Go.Proofs.YtpdfmfkoopdfgaaGreatDoor
end
section
namespace Go.Proofs.YtpdfmfkoopdfgaaGreatDoor
set_option maxRecDepth 100000
open Go.RowKit Aid Gr Hs LinP HeapP

theorem own_le {w : World} {base base' size n : Nat} {e : TypeId} {v : Value} {xs : List Value} (h : w.ownsRow base e size v n xs) (hb : base' ≤ base) : w.ownsRow base' e size v n xs := by
  obtain ⟨h1, h2⟩ := h
  rcases h2 with h2 | ⟨g, cap, cur, hv, hg, h3⟩
  · exact ⟨h1, .inl h2⟩
  · exact ⟨h1, .inr ⟨g, cap, cur, hv, Nat.le_trans hb hg, h3⟩⟩
theorem info3 : (Tryz.prog.info? 3).map (fun i => (i.zero, i.size, i.bytes)) = some (some (.int .i64 0), 1, 8) := by kernel_rfl
theorem MBox.grow {w w' : World} {bx : Nat} {e : Mo} (hx : MBox w bx e) {b0 : Nat} {t : TypeId} {size : Nat} {v : Value} {n : Nat} {xs : List Value} (ho : w.ownsRow b0 t size v n xs) (ht : t ≠ 103) (hg : w.grownBy w' v.ownBlock) : MBox w' bx e := by
  refine (hg.block bx (lt_of_block hx) (fun q => ?_)).trans hx
  obtain ⟨c', fz, hc⟩ := own_row ho bx q.symm
  unfold MBox at hx
  rw [hx] at hc; injection hc with hc; injection hc with _ hc; exact ht hc.symm
/-- The heap while the moments are laid in. -/
structure PInv (w : World) (ps : List Pt) (wr : World) (vh : Value) (lh : List Mo) (evs : List Ev) : Prop where
  heap : MH wr w.heap.size (w.heap.size + 1) vh lh
  perm : lh.Perm (evs.map (moOf (sysOf ps)))
  low : Heap Mo.key Mo.d lh lh.length
  bel : Below w.heap.size w wr
theorem PInv.later {w : World} {ps : List Pt} {wr W : World} {vh : Value} {lh : List Mo} {evs : List Ev} (h : PInv w ps wr vh lh evs) (hb : Below wr.heap.size wr W) : PInv w ps W vh lh evs :=
  ⟨⟨heapL h.heap.box hb, own_below h.heap.own hb, row_below h.heap.kind (fun g hg => (h.heap.own.lt g hg).2) hb, h.heap.low⟩, h.perm, h.low, h.bel.trans (hb.mono h.bel.size)⟩
/-- One moment more. -/
theorem PInv.push {w : World} {ps : List Pt} {W : World} {vh : Value} {lh : List Mo} {evs : List Ev} (h : PInv w ps W vh lh evs) (hn : evs.length ≤ 1000000) (e : Ev) (t : Int) (ht : (sysOf ps).at e = t) (b : Bool) (hb : e.2 = b) (i : Nat) (hi : e.1 = i) :
    Calls Tryz.prog 60 #[.iface 98 (.pointer (some ⟨w.heap.size + 1, 0, none⟩)), .iface 103 (.agg #[.int .i64 t, .bool b, .int .i64 i])] W fun o w' => o = .returned (.tuple #[]) ∧ ∃ v' l', PInv w ps w' v' l' (evs ++ [e]) ∧ (∀ (g : Nat) (ob : Obj), W.heap[g]? = some ob → g ≠ w.heap.size + 1 → vh.ownBlock ≠ some g → w'.heap[g]? = some ob) := by
  have hl : lh.length ≤ 9000000 := by
    have := h.perm.length_eq
    rw [List.length_map] at this
    omega
  refine (Push_any lh w.heap.size (w.heap.size + 1) vh ⟨t, b, i⟩ W h.heap hl h.low).mono ?_
  rintro o w' ⟨h1, v', l', h2, h3, h4, h5, h6⟩
  refine ⟨h1, v', l', ⟨h2, ?_, h4, ?_⟩, fun g ob hg hne hne2 => (h5.block g (lt_of_block hg) hne hne hne2).trans hg⟩
  · rw [List.map_append]
    have e1 : moOf (sysOf ps) e = ⟨t, b, i⟩ := by unfold moOf; rw [ht, hb, hi]
    rw [List.map_singleton, e1]
    exact h3.trans (h.perm.append_right _)
  · exact h.bel.trans (h5.below h.bel.size (by omega) (by omega) (fun g hg => (h.heap.own.lt g hg).1))
theorem PInv.start (w : World) (ps : List Pt) : PInv w ps ((w.alloc (.cells #[] 103)).alloc (.cells #[.slice (some ⟨w.heap.size, 0, none⟩) 0 0] 100)) (.slice (some ⟨w.heap.size, 0, none⟩) 0 0) [] (momTo (sysOf ps) 0) := by
  have b1 : Below w.heap.size w (w.alloc (.cells #[] 103)) := (Below.refl _ _).alloc (Nat.le_refl _) _
  have k1 := heap_alloc_new w (.cells #[] 103)
  have k2 := heap_alloc_new (w.alloc (.cells #[] 103)) (.cells #[.slice (some ⟨w.heap.size, 0, none⟩) 0 0] 100)
  have k3 := heapL k1 ((Below.refl _ _).alloc (Nat.le_refl _) (.cells #[.slice (some ⟨w.heap.size, 0, none⟩) 0 0] 100))
  simp only [World.size_alloc] at k2
  refine ⟨⟨k2, ⟨rfl, .inr ⟨w.heap.size, 0, #[], rfl, Nat.le_refl _, k3, Nat.le_refl _, by simp, rfl, rfl⟩⟩, fun g hg j x hx => ?_, by omega⟩, ?_, heap_zero _ _, b1.alloc (by simp) _⟩
  · obtain rfl : w.heap.size = g := Option.some.inj hg
    rw [Lib.cell_of_heap k3] at hx
    simp at hx
  · exact List.Perm.nil
set_option maxHeartbeats 16000000 in
theorem era_any (P : Option Addr) (cp np : Nat) (ps : List Pt) (F : Option Addr) (cf nf : Nat) (fr : List Nw) (w : World) (K : Nat) (hnp : np = ps.length) (hnf : nf = fr.length) (he : EIn w P ps fr K) (hF : Sl w F (nflat fr)) :
    Calls Tryz.prog 38 #[.slice P np cp, .slice F nf cf] w fun e w' => ∃ B d out, e = .returned (.slice B out.length d) ∧ Nows w' w.heap.size (.slice B out.length d) out ∧ Era (sysOf ps) (sts fr) (sts out) ∧ Below w.heap.size w w' ∧ (∀ n ∈ out, GS (sysOf ps) K n.st) ∧ out.length ≤ 1000000000000 := by
  have HE := Lib.hid he
  have HF := Lib.hid hF
  have HNP := Lib.hid hnp
  have HNF := Lib.hid hnf
  have npb : np ≤ 100000 := by have := he.small; omega
  clear he hF hnp hnf
  go_enter Tryz.func38, Tryz.ntmps38
  go_wp2
  have P0 := Lib.hid (PInv.start w ps)
  go_loopw [14] (fun x wr => ∃ (k : Nat) (vh : Value) (lh : List Mo), k ≤ np ∧ x = .int .i64 k ∧ PInv w ps wr vh lh (momTo (sysOf ps) k)) (fun x _ => np - (intOf x).toNat)
  case atStart => exact ⟨0, _, _, Nat.zero_le _, rfl, P0.out⟩
  case round =>
    clear P0
    obtain ⟨k, vh, lh, hk, rfl, hp⟩ := hrel
    have HP := Lib.hid hp
    clear hp
    by_cases hlt : k < np
    · have k0 : (0 : Int) ≤ (k : Int) := by omega
      have k1 : (k : Int) < (np : Int) := by omega
      have kz : IntKind.i64.wrap ((k : Int) + 1) = (k : Int) + 1 := by rw [IntKind.wrap_i64] <;> omega
      have hkl : k < ps.length := by rw [← HNP.out]; exact hlt
      obtain ⟨p, hpk⟩ : ∃ p, p = ptAt ps k := ⟨_, rfl⟩
      obtain ⟨pb, po, hPa, c0, c1, c2, c3, c4, c5, c6, c7, c8, c9, c10, c11, c12, c13⟩ := sl_pt (HE.out.pts.below HP.out.bel (Nat.le_refl _)) (ptAt_some hkl)
      rw [← hpk] at c0 c1 c2 c3 c4 c5 c6 c7 c9 c10 c11 c12 c13
      have PK := Lib.hid hpk
      subst hPa
      clear hpk hkl
      have BA : Hid (Below wr.heap.size wr (wr.alloc (pbx p))) := Lib.hid ((Below.refl _ _).alloc (Nat.le_refl _) _)
      have bx : (wr.alloc (pbx p)).heap[wr.heap.size]? = some (pbx p) := heap_alloc_new _ _
      have HQ := Lib.hid (HP.out.later BA.out)
      have hev : Hid ((momTo (sysOf ps) k).length ≤ 1000000) := Lib.hid (by have := momTo_length (S := sysOf ps) k; omega)
      have C1 : Hid (Calls Tryz.prog 60 #[.iface 98 (.pointer (some ⟨w.heap.size + 1, 0, none⟩)), .iface 103 (.agg #[.int .i64 p.fr, .bool false, .int .i64 k])] (wr.alloc (pbx p)) fun o w' => o = .returned (.tuple #[]) ∧ ∃ v' l', PInv w ps w' v' l' (momTo (sysOf ps) k ++ [(k, false)]) ∧ w'.heap[wr.heap.size]? = some (pbx p)) := Lib.hid (by
        refine (HQ.out.push hev.out (k, false) p.fr (by rw [PK.out]; rfl) false rfl k rfl).mono ?_
        rintro o w' ⟨h1, v', l', h2, h3⟩
        refine ⟨h1, v', l', h2, h3 _ _ (heap_alloc_new _ _) (fun q => ?_) (fun q => ?_)⟩
        · have := HP.out.heap.bw; omega
        · have := (HP.out.heap.own.lt _ q).2; omega)
      have hms : Hid (momTo (sysOf ps) (k + 1) = (momTo (sysOf ps) k ++ [(k, false)]) ++ (if p.must then [(k, true)] else [])) := Lib.hid (by
        rw [momTo_succ, PK.out, List.append_assoc]; rfl)
      have C2 : Hid (∀ (W : World) (v' : Value) (l' : List Mo), PInv w ps W v' l' (momTo (sysOf ps) k ++ [(k, false)]) → Calls Tryz.prog 60 #[.iface 98 (.pointer (some ⟨w.heap.size + 1, 0, none⟩)), .iface 103 (.agg #[.int .i64 p.to, .bool true, .int .i64 k])] W fun o w' => o = .returned (.tuple #[]) ∧ ∃ v' l', PInv w ps w' v' l' ((momTo (sysOf ps) k ++ [(k, false)]) ++ [(k, true)])) := Lib.hid fun W v' l' h => by
        refine (h.push (by have := momTo_length (S := sysOf ps) k; simp only [List.length_append, List.length_singleton]; omega) (k, true) p.to (by rw [PK.out]; rfl) true rfl k rfl).mono ?_
        rintro o w' ⟨h1, v', l', h2, h3⟩
        exact ⟨h1, v', l', h2⟩
      clear HQ PK HP BA hev
      have BX : Hid (∀ W : World, W.heap[wr.heap.size]? = some (pbx p) → W.cell? ⟨wr.heap.size, 11, none⟩ = some (.int .i64 p.to) ∧ W.cell? ⟨wr.heap.size, 13, none⟩ = some (.bool p.must)) := Lib.hid fun W h => by
        unfold World.cell?; simp only [h]; exact ⟨rfl, rfl⟩
      obtain ⟨pk, pu, pv, px, perr, pis, pn, pw, pany, pfr, pto, pera, must⟩ := p
      simp only at c0 c1 c2 c3 c4 c5 c6 c7 c9 c10 c11 c12 c13
      cases must
      · go_wp2_with (go_at_call 60; ((with_reducible refine C1.out.mono ?_); rintro o w2 ⟨rfl, v2, l2, hp2, hb2⟩; obtain ⟨d0, d1⟩ := BX.out _ hb2; have HP2 := Lib.hid hp2; clear hp2 hb2))
        go_roundw
        case rel => exact ⟨k + 1, v2, l2, by omega, by go_num, by rw [hms.out]; simpa using HP2.out⟩
        case measure => simp [intOf]; omega
      · go_wp2_with (first
          | (go_at_call 60; ((with_reducible refine C1.out.mono ?_); rintro o w2 ⟨rfl, v2, l2, hp2, hb2⟩; obtain ⟨d0, d1⟩ := BX.out _ hb2; have HP2 := Lib.hid (C2.out _ _ _ hp2); clear hp2 hb2))
          | (go_at_call 60; ((with_reducible refine HP2.out.mono ?_); rintro o w3 ⟨rfl, v3, l3, hp3⟩; have HP3 := Lib.hid hp3; clear hp3)))
        go_roundw
        case rel => exact ⟨k + 1, v3, l3, by omega, by go_num, by rw [hms.out]; simpa using HP3.out⟩
        case measure => simp [intOf]; omega
    · obtain rfl : k = np := by omega
      go_wp2
      have I0 : Hid (∃ (lc : Nat) (pre rest : List Ev), EInv w ps fr K wr F cf fr none 0 [] vh lh pre rest rest) := Lib.hid (by
        have hk : k = (sysOf ps).n := HNP.out
        have hpm := HP.out.perm
        rw [hk, momTo_all] at hpm
        refine ⟨0, [], _, HP.out.heap, hpm, HP.out.low, .start (List.Perm.refl _), .start, World.ownsRow_nil _ _ _ _, fun g hg => by (cases hg), HF.out.below HP.out.bel (Nat.le_refl _), fun n hn => (HE.out.ok n hn).below HP.out.bel (Nat.le_refl _), HE.out.gs, fun n hn hd a hB e => ?_, HE.out.few, HP.out.bel⟩
        obtain ⟨b, off, hB2, hc⟩ := (HE.out.ok n hn).2 (by rw [List.length_map]; exact List.length_pos_iff.2 hd)
        rw [hB] at hB2
        cases hB2
        have hx := hc 0 _ (List.getElem?_eq_getElem (by rw [List.length_map]; exact List.length_pos_iff.2 hd))
        have h1 := World.block_lt_of_cell? _ _ hx
        have h2 := (HP.out.heap.own.lt _ e).1
        simp only at h1 h2
        omega)
      clear HP
      obtain ⟨wa, hwa⟩ : ∃ wa, wa = wr := ⟨_, rfl⟩
      subst hwa
      have hx1 : (Value.slice F nf cf) = .slice F fr.length cf := by rw [HNF.out]
      go_loopw [1, 8] (fun x1 x8 W => ∃ (cur : List Nw) (A : Option Addr) (fc : Nat) (L : List Nat) (Lv : Option Addr) (lc : Nat) (v : Value) (l : List Mo) (pre rest : List Ev), x1 = .slice A cur.length fc ∧ x8 = .slice Lv L.length lc ∧ EInv w ps fr K W A fc cur Lv lc L v l pre rest rest) (fun _ _ W => match W.cell? ⟨w.heap.size + 1, 0, none⟩ with | some (.slice _ n _) => n | _ => 0)
      case atStart =>
        obtain ⟨_, pre, rest, h⟩ := I0.out
        exact ⟨fr, F, cf, [], none, 0, vh, lh, pre, rest, hx1, rfl, h⟩
      case round =>
        clear I0 hx1
        obtain ⟨cur, A, fc, L, Lv, lc, v, l, pre, rest, rfl, rfl, hinv⟩ := hrel
        have HI := Lib.hid hinv
        obtain ⟨vA, vc, hv⟩ := hinv.heap.form
        have q0 : wr.cell? ⟨w.heap.size + 1, 0, none⟩ = some (.slice vA l.length vc) := by rw [← hv]; exact hinv.heap.cell
        clear hinv
        cases hl : l.length with
        | zero =>
          have hr0 : rest = [] := by
            have := HI.out.perm.length_eq
            rw [hl, List.length_map] at this
            exact List.eq_nil_of_length_eq_zero this.symm
          subst hr0
          rw [hl] at q0
          have EG := Lib.hid (era_grown (np := k) (cp := cp) HE.out HNP.out HI.out (Below.refl _ wr))
          clear hl hv
          go_wp2_with (first
            | (go_at_call 61; ((with_reducible refine (Len_any _ _ _ _).mono ?_); rintro e w2 ⟨rfl, rfl⟩))
            | (go_at_call 64; ((with_reducible refine EG.out.mono ?_); rintro e w3 ⟨B3, d3, out3, rfl, hr3⟩; have HR3 := Lib.hid hr3; clear hr3)))
          go_ret
          obtain ⟨h1, h2, h3, h4, _, h6⟩ := HR3.out
          refine ⟨B3, d3, out3, rfl, ⟨own_le h1.own HI.out.bel.size, h1.kind, h1.ok⟩, HI.out.cut.era HI.out.been h2, HI.out.bel.trans (h3.mono HI.out.bel.size), h4, h6⟩
        | succ n =>
          rw [hl] at q0
          have hlb : l.length ≤ 200000 := HI.out.len HE.out
          have PC : Hid (Calls Tryz.prog 62 #[.iface 98 (.pointer (some ⟨w.heap.size + 1, 0, none⟩))] wr fun e w' => ∃ (x : Mo) (v' : Value) (l' : List Mo), e = .returned (.iface 103 (.agg #[.int .i64 x.t, .bool x.ends, .int .i64 x.i])) ∧ MH w' w.heap.size (w.heap.size + 1) v' l' ∧ (x :: l').Perm l ∧ (∀ y ∈ l, x.key ≤ y.key) ∧ Heap Mo.key Mo.d l' l'.length ∧ AK (w.heap.size + 1) (w.heap.size + 1) v wr w' ∧ v'.ownBlock = v.ownBlock) := Lib.hid (Pop_any l n w.heap.size (w.heap.size + 1) v wr HI.out.heap hl (by omega) HI.out.low)
          have HLN := Lib.hid hl
          have n0 : n ≤ 200000 := by omega
          clear hl hlb hv
          have TA := assert103
          go_upto_region 12 with (first
            | (go_at_call 61; ((with_reducible refine (Len_any _ _ _ _).mono ?_); rintro e w2 ⟨rfl, rfl⟩))
            | (go_at_call 62; ((with_reducible refine PC.out.mono ?_); rintro e w2 ⟨⟨xt, xe, xi⟩, v2, l2, rfl, hr2⟩; have HR2 := Lib.hid hr2; clear hr2)))
          obtain ⟨ev, rest', hev, hrp, hlp, hmin⟩ := pop_ev HI.out.perm HR2.out.2.1 HR2.out.2.2.1
          have I2 := Lib.hid (HI.out.pop HR2.out.1 HR2.out.2.2.2.2.1 HR2.out.2.2.2.2.2 hlp HR2.out.2.2.2.1)
          have hnl : Hid (l2.length = n) := Lib.hid (by
            have := HR2.out.2.1.length_eq
            rw [List.length_cons, HLN.out] at this
            omega)
          obtain ⟨ei, eb⟩ := ev
          unfold moOf at hev
          injection hev with e1 e2 e3
          simp only at e2 e3
          subst e2 e3
          have hxi : Hid (xi < ps.length) := Lib.hid (mem_moments.1 (HI.out.cut.perm.mem_iff.1 (List.mem_append_right _ (hrp.mem_iff.2 (List.mem_cons_self ..))))).1
          have HRP := Lib.hid hrp
          have HMIN := Lib.hid hmin
          have bxm : MBox (w2.alloc (.cells #[.int .i64 xt, .bool xe, .int .i64 xi] 103)) w2.heap.size ⟨xt, xe, xi⟩ := heap_alloc_new _ _
          have BX := Lib.hid bxm
          have I3 := Lib.hid (I2.out.later ((Below.refl _ _).alloc (Nat.le_refl _) (.cells #[.int .i64 xt, .bool xe, .int .i64 xi] 103)))
          have HBX : Hid (w2.heap.size < (w2.alloc (.cells #[.int .i64 xt, .bool xe, .int .i64 xi] 103)).heap.size) := Lib.hid (by rw [World.size_alloc]; omega)
          obtain ⟨bx, hbx⟩ : ∃ bx, bx = w2.heap.size := ⟨_, rfl⟩
          rw [← hbx] at BX HBX ⊢
          generalize w2.alloc (.cells #[.int .i64 xt, .bool xe, .int .i64 xi] 103) = w3 at BX I3 HBX ⊢
          have b1 : w3.cell? ⟨bx, 1, none⟩ = some (.bool xe) := by
            have := BX.out
            rw [Lib.cell_of_heap this]; rfl
          have b2 : w3.cell? ⟨bx, 2, none⟩ = some (.int .i64 xi) := BX.out.cell
          have HLL := Lib.hid (I3.out.livelen HE.out)
          clear hrp hlp hmin bxm hbx e1 HR2 HI I2 PC TA
          cases xe
          · obtain ⟨i0, hi0, hie⟩ := Option.map_eq_some_iff.1 info3
            have hz0 : i0.zero = some (.int .i64 0) := congrArg Prod.fst hie
            have hz1 : i0.size = 1 := congrArg (fun x => x.2.1) hie
            have hz2 : i0.bytes = 8 := congrArg (fun x => x.2.2) hie
            clear hie
            have BA : Hid (Below w3.heap.size w3 (w3.alloc (.cells #[.int .i64 xi] 3))) := Lib.hid ((Below.refl _ _).alloc (Nat.le_refl _) _)
            have I4 := Lib.hid (I3.out.later BA.out)
            have NEW : Hid (∀ j u, [Value.int .i64 (xi : Int)][j]? = some u → (w3.alloc (.cells #[.int .i64 xi] 3)).cell? ⟨w3.heap.size, 0 + j, none⟩ = some u) := Lib.hid fun j u hu => by
              rw [World.cell?_alloc_new, Nat.zero_add]; simpa using hu
            have ON : Hid (∀ u ∈ [Value.int .i64 (xi : Int)], u.oneCell' = true) := Lib.hid (by intro u hu; rw [List.mem_singleton] at hu; subst hu; rfl)
            have KN : Hid (∀ u ∈ [Value.int .i64 (xi : Int)], IsI u) := Lib.hid (by intro u hu; rw [List.mem_singleton] at hu; subst hu; exact ⟨_, rfl⟩)
            have KZ : Hid (∀ u ∈ (Value.int .i64 0).cells.toList, IsI u) := Lib.hid (by intro u hu; simp [Value.cells] at hu; subst hu; exact ⟨_, rfl⟩)
            have m1 : Hid (L.length + 1 ≤ maxLen) := Lib.hid (by have := HLL.out.2; unfold maxLen; omega)
            have k1 : Hid ((L.length + 1) * 8 ≤ 140737488355328) := Lib.hid (by have := HLL.out.2; omega)
            have bw : Hid (w.heap.size ≤ (w3.alloc (.cells #[.int .i64 xi] 3)).heap.size) := Lib.hid I4.out.bel.size
            go_wp2_with (at_builtin; refine wpList_append_all _ rfl (.tmp 50) (.tmp 53) 33 rfl IsI w.heap.size 3 i0 _ 1 8 Tryz.underlying33 hi0 hz0 hz1 hz2 rfl (by omega) (.slice Lv L.length lc) L.length (nats L) rfl I4.out.live I4.out.lkind w3.heap.size 1 1 [.int .i64 xi] rfl rfl NEW.out ON.out KN.out KZ.out (by omega) m1.out k1.out bw.out (L.length + 1) rfl ?_; intro A5 c5 w5 hown5 hg5 hl5 hr5; have I5 := Lib.hid (I4.out.beg HRP.out HMIN.out hown5 hr5 hg5); clear hown5 hg5 hl5 hr5)
            have hnew : ∃ a c, w5.cell? ⟨w.heap.size + 1, 0, none⟩ = some (.slice a n c) := by
              obtain ⟨a, c, hv2⟩ := I5.out.heap.form
              rw [hnl.out] at hv2
              exact ⟨a, c, by rw [← hv2]; exact I5.out.heap.cell⟩
            go_roundw
            case rel => exact ⟨cur, A, fc, L ++ [xi], A5, c5, v2, l2, _, rest', rfl, by rw [List.length_append]; rfl, I5.out⟩
            case measure =>
              obtain ⟨a, c, hnew⟩ := hnew
              rw [hnew, q0]; simp
          · have EG : Hid (Calls Tryz.prog 64 #[.slice P k cp, .slice Lv L.length lc, .slice A cur.length fc] w3 fun e w' => ∃ B d out, e = .returned (.slice B out.length d) ∧ Nows w' w3.heap.size (.slice B out.length d) out ∧ Grown (sysOf ps) L (sts cur) (sts out) ∧ Below w3.heap.size w3 w' ∧ (∀ n ∈ out, GS (sysOf ps) K n.st) ∧ (∀ n ∈ out, ∀ a, n.B = some a → w3.heap.size ≤ a.block) ∧ out.length ≤ 1000000000000) := Lib.hid (era_grown HE.out HNP.out I3.out (Below.refl _ w3))
            have D63 : Hid (∀ (w4 : World) (B : Option Addr) (d : Nat) (out : List Nw), Nows w4 w3.heap.size (.slice B out.length d) out → Below w3.heap.size w3 w4 → (∀ n ∈ out, GS (sysOf ps) K n.st) → out.length ≤ 1000000000000 → Calls Tryz.prog 63 #[.slice B out.length d, .func (.func 65) #[] #[.pointer (some ⟨bx, 0, none⟩)]] w4 fun e w' => ∃ B' d', e = .returned (.slice B' (keptN out fun n => !isD n.d xi).length d') ∧ Nows w' w3.heap.size (.slice B' (keptN out fun n => !isD n.d xi).length d') (keptN out fun n => !isD n.d xi) ∧ (Value.slice B' (keptN out fun n => !isD n.d xi).length d').ownBlock = (Value.slice B out.length d).ownBlock ∧ w4.grownBy w' (Value.slice B out.length d).ownBlock) := Lib.hid fun w4 B d out h1 h2 h3 h4 =>
              delete63 65 _ call65 (fun n => !isD n.d xi) B d out.length out w4 w3.heap.size rfl h1 h4 (says65 (e := ⟨xt, true, xi⟩) (BX.out.later h2) h1 h3 hxi.out)
            have D66 : Hid (∀ (w4 w5 : World) (B : Option Addr) (d : Nat) (out : List Nw), Nows w4 w3.heap.size (.slice B out.length d) out → Below w3.heap.size w3 w4 → w4.grownBy w5 (Value.slice B out.length d).ownBlock → Calls Tryz.prog 66 #[.slice Lv L.length lc, .func (.func 67) #[] #[.pointer (some ⟨bx, 0, none⟩)]] w5 fun e w' => ∃ B' d', e = .returned (.slice B' (keptX L fun j => decide (j = xi)).length d') ∧ w'.ownsRow w.heap.size 3 1 (.slice B' (keptX L fun j => decide (j = xi)).length d') (keptX L fun j => decide (j = xi)).length (nats (keptX L fun j => decide (j = xi))) ∧ (Value.slice B' (keptX L fun j => decide (j = xi)).length d').ownBlock = (Value.slice Lv L.length lc).ownBlock ∧ w5.grownBy w' (Value.slice Lv L.length lc).ownBlock ∧ RowAll IsI (.slice Lv L.length lc) w') := Lib.hid fun w4 w5 B d out h1 h2 h3 => by
              have v1 := own_below I3.out.live h2
              have hap : ∀ g, (Value.slice Lv L.length lc).ownBlock = some g → some g ≠ (Value.slice B out.length d).ownBlock := fun g q e => by
                obtain ⟨c1, f1, g1⟩ := own_row v1 g q
                obtain ⟨c2, f2, g2⟩ := own_row h1.own g e.symm
                rw [g1] at g2; injection g2 with g2; injection g2 with _ g2; cases g2
              have v2 := own_blk v1 (fun g q => h3.block g (v1.lt g q).2 (hap g q))
              have k1 := row_below I3.out.lkind (fun g hg => (I3.out.live.lt g hg).2) h2
              have k2 := all_blk k1 (fun g q => h3.block g (v1.lt g q).2 (hap g q))
              have bx5 := (BX.out.later h2).grow h1.own (by decide) h3
              refine (delete66 67 _ call67 (fun j => decide (j = xi)) Lv lc L.length L w5 w.heap.size rfl v2 (by have := HLL.out.2; omega) (says67 (e := ⟨xt, true, xi⟩) bx5 v2)).mono ?_
              rintro e w' ⟨B', d', g1, g2, g3, g4, g5⟩
              exact ⟨B', d', g1, g2, g3, g4, g5 IsI (fun m => ⟨m, rfl⟩) k2⟩
            go_wp2_with (first
              | (go_at_call 64; ((with_reducible refine EG.out.mono ?_); rintro e w4 ⟨B4, d4, out, rfl, r1, r2, r3, r4, r5, r6⟩; have DD := Lib.hid (D63.out w4 B4 d4 out r1 r3 r4 r6); have R1 := Lib.hid r1; have R2 := Lib.hid r2; have R3 := Lib.hid r3; have R4 := Lib.hid r4; have R5 := Lib.hid r5; have R6 := Lib.hid r6; clear r1 r2 r3 r4 r5 r6))
              | (go_at_call 63; ((with_reducible refine DD.out.mono ?_); rintro e w5 ⟨B5, d5, rfl, s1, s2, s3⟩; have DX := Lib.hid (D66.out w4 w5 B4 d4 out R1.out R3.out s3); have S1 := Lib.hid s1; have S3 := Lib.hid s3; clear s1 s2 s3))
              | (go_at_call 66; ((with_reducible refine DX.out.mono ?_); rintro e w6 ⟨B6, d6, rfl, t1, t2, t3, t4⟩; have I6 := Lib.hid (I3.out.stop HRP.out HMIN.out R3.out (Nat.le_refl _) R2.out R1.out R4.out R5.out R6.out S1.out S3.out t1 t2 t3 t4); clear t1 t2 t3 t4)))
            have hnew : ∃ a c, w6.cell? ⟨w.heap.size + 1, 0, none⟩ = some (.slice a n c) := by
              obtain ⟨a, c, hv2⟩ := I6.out.heap.form
              rw [hnl.out] at hv2
              exact ⟨a, c, by rw [← hv2]; exact I6.out.heap.cell⟩
            go_roundw
            case rel => exact ⟨_, B5, d5, _, B6, d6, v2, l2, _, rest', rfl, by rw [keptX_eq], I6.out⟩
            case measure =>
              obtain ⟨a, c, hnew⟩ := hnew
              rw [hnew, q0]; simp
end Go.Proofs.YtpdfmfkoopdfgaaGreatDoor
end
