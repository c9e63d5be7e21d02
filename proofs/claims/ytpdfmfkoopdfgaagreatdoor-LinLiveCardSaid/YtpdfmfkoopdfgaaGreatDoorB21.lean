/- LGI, PAdd, LAdd0. -/
import Derived.Test.YtpdfmfkoopdfgaaGreatDoorB19
import Derived.Test.YtpdfmfkoopdfgaaGreatDoorB18
import Derived.Test.YtpdfmfkoopdfgaaGreatDoorB20
import Derived.Test.YtpdfmfkoopdfgaaGreatDoorB06
import Derived.Maps.OwnSet
import Derived.OneCell
import Derived.Deep.RegionWith
set_option linter.unusedVariables false
set_option linter.unusedSimpArgs false
section
namespace Go.Proofs.YtpdfmfkoopdfgaaGreatDoor
set_option maxRecDepth 100000
open Go.RowKit Aid Gr Hs LinP

/-- A state, and where it lies. -/
structure Nw where
  A : Option Addr
  c : Nat
  l : List Arc
  B : Option Addr
  k : Nat
  d : List Bool
def Nw.st (n : Nw) : St (List Arc) := (n.l, n.d)
def Nw.v0 (n : Nw) : Value := .slice n.A n.l.length n.c
def Nw.v1 (n : Nw) : Value := .slice n.B n.d.length n.k
def Nw.val (n : Nw) : Value := .agg #[n.v0, n.v1]
def nflat : List Nw → List Value
  | [] => []
  | n :: l => n.v0 :: n.v1 :: nflat l
theorem nflat_append : ∀ l m : List Nw, nflat (l ++ m) = nflat l ++ nflat m
  | [], _ => rfl
  | n :: l, m => by simp [nflat, nflat_append l m]
theorem nflat_length : ∀ l : List Nw, (nflat l).length = l.length * 2
  | [] => rfl
  | n :: l => by simp [nflat, nflat_length l]; omega
theorem nflat_get : ∀ (l : List Nw) (i : Nat) (n : Nw), l[i]? = some n → (nflat l)[i * 2]? = some n.v0 ∧ (nflat l)[i * 2 + 1]? = some n.v1
  | [], i, n, h => by simp at h
  | m :: l, 0, n, h => by simp at h; subst h; simp [nflat]
  | m :: l, i + 1, n, h => by
    have := nflat_get l i n (by simpa using h)
    rw [show (i + 1) * 2 = i * 2 + 1 + 1 from by omega]
    simpa [nflat, show i * 2 + 1 + 1 + 1 = (i * 2 + 1) + 1 + 1 from rfl] using this
def NwOk (w : World) (n : Nw) : Prop := Arcs w n.A n.l ∧ Sl w n.B (n.d.map Value.bool)
theorem NwOk.below {B : Nat} {w w' : World} {n : Nw} (h : NwOk w n) (hb : Below B w w') (hB : w.heap.size ≤ B) : NwOk w' n := ⟨h.1.below hb hB, h.2.below hb hB⟩
def sts (out : List Nw) : List (St (List Arc)) := out.map Nw.st
def keysOfOut (out : List Nw) : List Lit := out.map fun n => Lit.string (nameOf n.l n.d)

/-- Which blocks a call of add may write: out's box, the map, the row of out. -/
structure AK (bo bm : Nat) (v : Value) (w w' : World) : Prop where
  os : w'.os = w.os
  tape : w'.tape = w.tape
  output : w'.output = w.output
  size : w.heap.size ≤ w'.heap.size
  block : ∀ k, k < w.heap.size → k ≠ bo → k ≠ bm → v.ownBlock ≠ some k → w'.heap[k]? = w.heap[k]?
def Nx (v v' : Value) (w : World) : Prop := v'.ownBlock = v.ownBlock ∨ ∃ g, v'.ownBlock = some g ∧ w.heap.size ≤ g
theorem AK.refl (bo bm : Nat) (v : Value) (w : World) : AK bo bm v w w := ⟨rfl, rfl, rfl, Nat.le_refl _, fun _ _ _ _ _ => rfl⟩
theorem Nx.refl (v : Value) (w : World) : Nx v v w := .inl rfl
theorem AK.trans {bo bm : Nat} {v v1 : Value} {a b c : World} (h : AK bo bm v a b) (hn : Nx v v1 a) (k : AK bo bm v1 b c) : AK bo bm v a c :=
  ⟨k.os.trans h.os, k.tape.trans h.tape, k.output.trans h.output, Nat.le_trans h.size k.size, fun i hi h1 h2 h3 => (k.block i (Nat.lt_of_lt_of_le hi h.size) h1 h2 (fun e => by
    rcases hn with q | ⟨g, q, hg⟩
    · exact h3 (q ▸ e)
    · rw [q] at e; cases e; omega)).trans (h.block i hi h1 h2 h3)⟩
theorem Nx.trans {v v1 v2 : Value} {a b : World} (h : Nx v v1 a) (k : Nx v1 v2 b) (hs : a.heap.size ≤ b.heap.size) : Nx v v2 a := by
  rcases k with q | ⟨g, q, hg⟩
  · rcases h with r | ⟨g, r, hg⟩
    · exact .inl (q.trans r)
    · exact .inr ⟨g, q.trans r, hg⟩
  · exact .inr ⟨g, q, by omega⟩
theorem AK.ofBelow {bo bm : Nat} {v : Value} {w w' : World} (h : Below w.heap.size w w') : AK bo bm v w w' := ⟨h.os, h.tape, h.output, h.size, fun k hk _ _ _ => h.block k hk⟩
theorem AK.cell {bo bm : Nat} {v : Value} {w w' : World} (h : AK bo bm v w w') {p : Addr} (h0 : p.block < w.heap.size) (h1 : p.block ≠ bo) (h2 : p.block ≠ bm) (h3 : v.ownBlock ≠ some p.block) : w'.cell? p = w.cell? p := World.cell?_of_block (w := w) (h.block _ h0 h1 h2 h3)
theorem AK.frozen {bo bm : Nat} {v : Value} {w w' : World} (h : AK bo bm v w w') {p : Addr} (h0 : p.block < w.heap.size) (h1 : p.block ≠ bo) (h2 : p.block ≠ bm) (h3 : v.ownBlock ≠ some p.block) : w'.frozen? p = w.frozen? p := World.frozen?_of_block (w := w) (h.block _ h0 h1 h2 h3)
theorem AK.below {bo bm : Nat} {v : Value} {w w' : World} (h : AK bo bm v w w') {B : Nat} (hB : B ≤ w.heap.size) (h1 : B ≤ bo) (h2 : B ≤ bm) (h3 : ∀ k, v.ownBlock = some k → B ≤ k) : Below B w w' :=
  ⟨h.os, h.tape, h.output, h.size, fun k hk => h.block k (by omega) (by omega) (by omega) (fun e => by have := h3 k e; omega)⟩
theorem Box2.ak {bo bm : Nat} {v v0 v1 : Value} {w w' : World} {b : Nat} (h : Box2 w b v0 v1) (hk : AK bo bm v w w') (h1 : b ≠ bo) (h2 : b ≠ bm) (h3 : v.ownBlock ≠ some b) : Box2 w' b v0 v1 :=
  ⟨(hk.cell (p := ⟨b, 0, none⟩) h.lt h1 h2 h3).trans h.c0, (hk.cell (p := ⟨b, 1, none⟩) h.lt h1 h2 h3).trans h.c1, (hk.frozen (p := ⟨b, 0, none⟩) h.lt h1 h2 h3).trans h.f0, (hk.frozen (p := ⟨b, 1, none⟩) h.lt h1 h2 h3).trans h.f1⟩

/-- What the search's call has made ahead: its boxes; the points, the live ones. -/
structure Env where
  base : Nat
  bp : Nat
  bl : Nat
  bs : Nat
  bo : Nat
  ba : Nat
  bm : Nat
  P : Option Addr
  cp : Nat
  ps : List Pt
  V : Option Addr
  cv : Nat
  L : List Nat
structure Env.Ok (E : Env) : Prop where
  h1 : E.base ≤ E.bp
  h2 : E.base ≤ E.bl
  h3 : E.base ≤ E.bs
  h4 : E.base ≤ E.bo
  h5 : E.base ≤ E.ba
  h6 : E.base ≤ E.bm
  live : ∀ i ∈ E.L, i < E.ps.length
  fine : ∀ p ∈ E.ps, (opOf p).Fine
  small : E.ps.length ≤ 1000000
  few : E.L.length ≤ 1000000
  pb : 0 < E.ps.length → ∀ a, E.P = some a → a.block < E.base
  vb : 0 < E.L.length → ∀ a, E.V = some a → a.block < E.base
def Env.fn (E : Env) : Value := .func (.func 92) #[] #[.pointer (some ⟨E.bp, 0, none⟩), .pointer (some ⟨E.bl, 0, none⟩), .pointer (some ⟨E.bs, 0, none⟩), .pointer (some ⟨E.bo, 0, none⟩), .pointer (some ⟨E.ba, 0, none⟩)]
structure GIx (E : Env) (w : World) (v : Value) (out : List Nw) (ks : List Lit) : Prop where
  hp : w.heap[E.bp]? = some (.cells #[.slice E.P E.ps.length E.cp] 72 (0, 0))
  hl : w.heap[E.bl]? = some (.cells #[.slice E.V E.L.length E.cv] 33 (0, 0))
  hs : w.heap[E.bs]? = some (.cells #[.map (some E.bm)] 136 (0, 0))
  ho : w.heap[E.bo]? = some (.cells #[v] 63 (0, 0))
  ha : w.heap[E.ba]? = some (.cells #[E.fn] 137 (0, 0))
  hm : w.ownsMap Tryz.prog 9 (unitElem (H := Unit)) E.bm ks.length (Maps.setOf (.agg []) ks)
  own : w.ownsRow E.base 66 2 v out.length (nflat out)
  ok : ∀ n ∈ out, NwOk w n
  pts : Sl w E.P (Hs.flat E.ps)
  lv : Sl w E.V (nats E.L)
  tab : Tab w
  bw : E.base ≤ w.heap.size
  rsl : RowAll IsSl v w
  nb : ∀ n ∈ out, ∀ a, n.B = some a → E.base ≤ a.block
abbrev GI (E : Env) (w : World) (v : Value) (out : List Nw) : Prop := GIx E w v out (keysOfOut out)
theorem kept_below {w W : World} (hb : Below w.heap.size w W) : w.grownBy W none := ⟨hb.os, hb.tape, hb.output, hb.size, fun k hk _ => hb.block k hk⟩
theorem own_below {w W : World} {base : Nat} {e : TypeId} {size : Nat} {v : Value} {n : Nat} {xs : List Value} (h : w.ownsRow base e size v n xs) (hb : Below w.heap.size w W) : W.ownsRow base e size v n xs :=
  h.kept (kept_below hb) (by
    cases hq : v.ownBlock
    · exact .inl rfl
    · exact .inr (by simp))
theorem heapL {w W : World} {b : Nat} {o : Obj} (h : w.heap[b]? = some o) (hb : Below w.heap.size w W) : W.heap[b]? = some o := (hb.block _ (Array.getElem?_eq_some_iff.1 h).1).trans h
theorem GIx.later {E : Env} {w W : World} {v : Value} {out : List Nw} {ks : List Lit} (h : GIx E w v out ks) (hb : Below w.heap.size w W) : GIx E W v out ks :=
  ⟨heapL h.hp hb, heapL h.hl hb, heapL h.hs hb, heapL h.ho hb, heapL h.ha hb, h.hm.kept (kept_below hb) (by simp), own_below h.own hb, fun n hn => (h.ok n hn).below hb (Nat.le_refl _), h.pts.below hb (Nat.le_refl _), h.lv.below hb (Nat.le_refl _), h.tab.below hb (Nat.le_refl _), Nat.le_trans h.bw hb.size, fun g hg j x hx => h.rsl g hg j x ((hb.cell (p := ⟨g, j, none⟩) (h.own.lt g hg).2).symm.trans hx), h.nb⟩
theorem GIx.row {E : Env} {w : World} {v : Value} {out : List Nw} {ks : List Lit} (h : GIx E w v out ks) : ∀ k, v.ownBlock = some k → E.base ≤ k ∧ k < w.heap.size := h.own.lt
theorem GIx.ne {E : Env} {w : World} {v : Value} {out : List Nw} {ks : List Lit} (h : GIx E w v out ks) {b : Nat} {c : Array Value} {t : TypeId} {z : Nat × Nat} (hb : w.heap[b]? = some (.cells c t z)) (ht : t ≠ 66) : v.ownBlock ≠ some b := fun e => by
  obtain ⟨c', fz, hc⟩ := own_row h.own _ e
  rw [hb] at hc; injection hc with hc; injection hc with _ hc; exact ht hc
theorem GIx.nem {E : Env} {w : World} {v : Value} {out : List Nw} {ks : List Lit} (h : GIx E w v out ks) {b : Nat} {c : Array Value} {t : TypeId} {z : Nat × Nat} (hb : w.heap[b]? = some (.cells c t z)) : b ≠ E.bm := fun e => by
  obtain ⟨es, clock, hm, _⟩ := h.hm
  subst e; rw [hb] at hm; cases hm
theorem GIx.neo {E : Env} {w : World} {v : Value} {out : List Nw} {ks : List Lit} (h : GIx E w v out ks) {b : Nat} {c : Array Value} {t : TypeId} {z : Nat × Nat} (hb : w.heap[b]? = some (.cells c t z)) (ht : t ≠ 63) : b ≠ E.bo := fun e => by
  have := h.ho
  subst e; rw [hb] at this; injection this with this; injection this with _ this; exact ht this
theorem GIx.mo {E : Env} {w : World} {v : Value} {out : List Nw} {ks : List Lit} (h : GIx E w v out ks) : E.bm ≠ E.bo := fun e => h.nem h.ho e.symm
theorem GIx.rm {E : Env} {w : World} {v : Value} {out : List Nw} {ks : List Lit} (h : GIx E w v out ks) : v.ownBlock ≠ some E.bm := fun e => by
  obtain ⟨c', fz, hc⟩ := own_row h.own _ e
  obtain ⟨es, clock, hm, _⟩ := h.hm
  rw [hc] at hm; cases hm
theorem sl_low {B : Nat} {w W : World} {A : Option Addr} {xs : List Value} (h : Sl w A xs) (hA : 0 < xs.length → ∀ a, A = some a → a.block < B) (hb : Below B w W) : Sl W A xs := fun hp => by
  obtain ⟨b, off, rfl, hc⟩ := h hp
  exact ⟨b, off, rfl, fun j u hu => (hb.cell (p := ⟨b, off + j, none⟩) (show b < B from hA hp ⟨b, off, none⟩ rfl)).trans (hc j u hu)⟩
theorem tab_low {w W : World} (h : Tab w) {B : Nat} (hB : 0 < B) (hb : Below B w W) : Tab W := by
  unfold Tab Lib.TabIs World.var? at h ⊢
  rw [gPow] at h ⊢
  simp only [Option.bind_some] at h ⊢
  rw [hb.block 0 hB]; exact h
theorem one_ne {w : World} {b p o : Nat} {v x : Value} {t : TypeId} {z : Nat × Nat} (hb : w.heap[b]? = some (.cells #[v] t z)) (hc : w.cell? ⟨p, o, none⟩ = some x) (hx : x ≠ v) : p ≠ b := fun e => by
  subst e
  rw [Lib.cell_of_heap hb] at hc
  cases o with
  | zero => simp at hc; exact hx hc.symm
  | succ o => simp at hc
theorem arcs_set {w : World} {A : Option Addr} {l : List Arc} {b : Nat} {v u : Value} {t : TypeId} {z : Nat × Nat} (h : Arcs w A l) (hb : w.heap[b]? = some (.cells #[v] t z)) (hv : ∀ k n, v ≠ .int k n) : Arcs (w.setCell ⟨b, 0, none⟩ u) A l := by
  obtain ⟨h1, h2, h3⟩ := h
  refine ⟨h1, h2, fun hp => ?_⟩
  obtain ⟨p, off, hA, hc⟩ := h3 hp
  refine ⟨p, off, hA, fun i a hi => ?_⟩
  obtain ⟨c0, c1, c2⟩ := hc i a hi
  have hn : p ≠ b := one_ne hb c0 (fun e => hv _ _ e.symm)
  exact ⟨(cell_set_ne _ _ _ _ hn).trans c0, (cell_set_ne _ _ _ _ hn).trans c1, (cell_set_ne _ _ _ _ hn).trans c2⟩
theorem bools_set {w : World} {A : Option Addr} {d : List Bool} {b : Nat} {v u : Value} {t : TypeId} {z : Nat × Nat} (h : Sl w A (d.map Value.bool)) (hb : w.heap[b]? = some (.cells #[v] t z)) (hv : ∀ k, v ≠ .bool k) : Sl (w.setCell ⟨b, 0, none⟩ u) A (d.map Value.bool) := fun hp => by
  obtain ⟨p, off, hA, hc⟩ := h hp
  refine ⟨p, off, hA, fun j x hj => ?_⟩
  have hx : ∃ k, x = .bool k := by
    obtain ⟨k, _, rfl⟩ := List.mem_map.1 (List.mem_of_getElem? hj)
    exact ⟨k, rfl⟩
  obtain ⟨k, rfl⟩ := hx
  have hn : p ≠ b := one_ne hb (hc j _ hj) (fun e => hv _ e.symm)
  exact (cell_set_ne _ _ _ _ hn).trans (hc j _ hj)
theorem own_slice {w : World} {base : Nat} {e : TypeId} {size : Nat} {v : Value} {n : Nat} {xs : List Value} (h : w.ownsRow base e size v n xs) : ∃ A c, v = .slice A n c := by
  rcases h.2 with ⟨rfl, rfl⟩ | ⟨g, cap, cur, rfl, _⟩
  · exact ⟨_, _, rfl⟩
  · exact ⟨_, _, rfl⟩
/-- Behind a step that leaves all old blocks but those of the map and of the row. -/
theorem GIx.put {E : Env} (hE : E.Ok) {w w1 : World} {v : Value} {out : List Nw} {ks : List Lit} {x : Lit} (h : GIx E w v out ks) (hm : w1.ownsMap Tryz.prog 9 (unitElem (H := Unit)) E.bm (ks.length + 1) (Maps.setOf (.agg []) (ks ++ [x]))) (hg : w.grownBy w1 (some E.bm)) (hz : 0 < E.base) (hok : ∀ n ∈ out, NwOk w1 n) : GIx E w1 v out (ks ++ [x]) := by
  have hb : Below E.base w w1 := (Below.refl _ _).grown hg h.bw (fun k hk => by cases hk; exact hE.h6)
  have blk : ∀ {b : Nat} {o : Obj}, w.heap[b]? = some o → b ≠ E.bm → w1.heap[b]? = some o := fun {b} {o} hh h1 => (hg.block b (lt_of_block hh) (fun e => h1 (Option.some.inj e))).trans hh
  exact ⟨blk h.hp (h.nem h.hp), blk h.hl (h.nem h.hl), blk h.hs (h.nem h.hs), blk h.ho (h.nem h.ho), blk h.ha (h.nem h.ha), by rw [List.length_append]; exact hm, h.own.kept hg (.inr h.rm), hok, sl_low h.pts (fun q => hE.pb (by rw [Hs.flat_length] at q; omega)) hb, sl_low h.lv (fun q => hE.vb (by unfold nats at q; rw [List.length_map] at q; exact q)) hb, tab_low h.tab hz hb, Nat.le_trans h.bw hg.size, fun g hgg j y hy => h.rsl g hgg j y ((World.cell?_of_block (w := w) (a := ⟨g, j, none⟩) (hg.block g (h.own.lt g hgg).2 (fun e => h.rm (by rw [hgg]; exact e)))).symm.trans hy), h.nb⟩
theorem GIx.push {E : Env} (hE : E.Ok) {w w2 : World} {v v' : Value} {out : List Nw} {ks : List Lit} {n : Nw} (h : GIx E w v out ks) (hz : 0 < E.base)
    (hown : w2.ownsRow E.base 66 2 v' (out.length + 1) (nflat out ++ [n.v0, n.v1])) (hg2 : w.grownBy w2 v.ownBlock) (hrw : RowAll IsSl v' w2) (hn : NwOk w2 n) (hok : ∀ x ∈ out, NwOk w2 x) (hnb : ∀ a, n.B = some a → E.base ≤ a.block) :
    GIx E (w2.setCell ⟨E.bo, 0, none⟩ v') v' (out ++ [n]) ks := by
  have hb2 : Below E.base w w2 := (Below.refl _ _).grown hg2 h.bw (fun k hk => (h.row k hk).1)
  have hb : Below E.base w (w2.setCell ⟨E.bo, 0, none⟩ v') := hb2.setCell (p := ⟨E.bo, 0, none⟩) hE.h4 _
  have blk2 : ∀ {b : Nat} {o : Obj}, w.heap[b]? = some o → v.ownBlock ≠ some b → w2.heap[b]? = some o := fun {b} {o} hh h1 => (hg2.block b (lt_of_block hh) (fun e => h1 e.symm)).trans hh
  have blk : ∀ {b : Nat} {o : Obj}, w.heap[b]? = some o → v.ownBlock ≠ some b → b ≠ E.bo → (w2.setCell ⟨E.bo, 0, none⟩ v').heap[b]? = some o := fun {b} {o} hh h1 h2 => (Below.heap_setCell _ _ _ _ (by simpa using h2)).trans (blk2 hh h1)
  have ho2 := blk2 h.ho (h.ne h.ho (by decide))
  obtain ⟨a, c, hv⟩ := own_slice h.own
  have hne : v'.ownBlock ≠ some E.bo := fun e => by
    obtain ⟨c', fz, hc⟩ := own_row hown _ e
    rw [ho2] at hc; injection hc with hc; injection hc with _ hc; cases hc
  have ok2 : ∀ x, NwOk w2 x → NwOk (w2.setCell ⟨E.bo, 0, none⟩ v') x := fun x hx => ⟨arcs_set hx.1 ho2 (fun k n e => by rw [hv] at e; cases e), bools_set hx.2 ho2 (fun k e => by rw [hv] at e; cases e)⟩
  refine ⟨blk h.hp (h.ne h.hp (by decide)) (h.neo h.hp (by decide)), blk h.hl (h.ne h.hl (by decide)) (h.neo h.hl (by decide)), blk h.hs (h.ne h.hs (by decide)) (h.neo h.hs (by decide)), one_setCell ho2, blk h.ha (h.ne h.ha (by decide)) (h.neo h.ha (by decide)), ?_, ?_, ?_, sl_low h.pts (fun q => hE.pb (by rw [Hs.flat_length] at q; omega)) hb, sl_low h.lv (fun q => hE.vb (by unfold nats at q; rw [List.length_map] at q; exact q)) hb, tab_low h.tab hz hb, Nat.le_trans h.bw hb.size, fun g hgg j y hy => hrw g hgg j y ((cell_set_ne w2 ⟨E.bo, 0, none⟩ ⟨g, j, none⟩ v' (fun e => hne (by rw [hgg]; exact congrArg some e))).symm.trans hy), fun x hx => by
    rcases List.mem_append.1 hx with q | q
    · exact h.nb x q
    · rw [List.mem_singleton] at q; subst q; exact hnb⟩
  · exact (h.hm.kept hg2 (fun e => h.rm e.symm)).setCell h.mo _
  · rw [nflat_append, List.length_append]
    exact ownsRow_setCell_other hown hne _
  · intro x hx
    rcases List.mem_append.1 hx with q | q
    · exact ok2 x (hok x q)
    · rw [List.mem_singleton] at q; subst q; exact ok2 x hn
/-- Numbers and bools lie in no row of slices. -/
theorem NwOk.grow {w w2 : World} {v : Value} {n : Nw} (hr : RowAll IsSl v w) (h : NwOk w n) (hg : w.grownBy w2 v.ownBlock) : NwOk w2 n := by
  have k : ∀ (b o : Nat) (x : Value), w.cell? ⟨b, o, none⟩ = some x → ¬ IsSl x → w2.cell? ⟨b, o, none⟩ = some x := fun b o x hx hn =>
    (World.cell?_of_block (w := w) (a := ⟨b, o, none⟩) (hg.block b (World.block_lt_of_cell? _ _ hx) (fun e => hn (hr b e.symm o x hx)))).trans hx
  have i1 : ∀ q m, ¬ IsSl (.int q m) := fun q m ⟨_, _, _, e⟩ => by cases e
  have i2 : ∀ q, ¬ IsSl (.bool q) := fun q ⟨_, _, _, e⟩ => by cases e
  refine ⟨⟨h.1.1, h.1.2.1, fun hp => ?_⟩, fun hp => ?_⟩
  · obtain ⟨b, off, hA, hc⟩ := h.1.2.2 hp
    exact ⟨b, off, hA, fun i a hi => ⟨k _ _ _ (hc i a hi).1 (i1 _ _), k _ _ _ (hc i a hi).2.1 (i1 _ _), k _ _ _ (hc i a hi).2.2 (i1 _ _)⟩⟩
  · obtain ⟨b, off, hA, hc⟩ := h.2 hp
    refine ⟨b, off, hA, fun j x hj => k _ _ _ (hc j x hj) ?_⟩
    obtain ⟨q, _, rfl⟩ := List.mem_map.1 (List.mem_of_getElem? hj)
    exact i2 q
theorem AK.ofRow {bo bm : Nat} {v : Value} {w w' : World} (hg : w.grownBy w' v.ownBlock) : AK bo bm v w w' := ⟨hg.os, hg.tape, hg.output, hg.size, fun k hk _ _ h3 => hg.block k hk (fun e => h3 e.symm)⟩
theorem AK.setBo {bo bm : Nat} {v : Value} {w w' : World} (h : AK bo bm v w w') (x : Value) : AK bo bm v w (w'.setCell ⟨bo, 0, none⟩ x) :=
  ⟨h.os, h.tape, h.output, by rw [World.size_setCell]; exact h.size, fun k hk h1 h2 h3 => (Below.heap_setCell w' ⟨bo, 0, none⟩ x k h1).trans (h.block k hk h1 h2 h3)⟩
end Go.Proofs.YtpdfmfkoopdfgaaGreatDoor
end
section
namespace Go.Proofs.YtpdfmfkoopdfgaaGreatDoor
set_option maxRecDepth 100000
open Go.RowKit Aid Gr Hs LinP

/-! ### names -/
theorem split_at {s : UInt8} : ∀ {x x' y y' : List UInt8}, s ∉ x → s ∉ x' → x ++ s :: y = x' ++ s :: y' → x = x' ∧ y = y'
  | [], [], y, y', _, _, h => by simpa using h
  | [], c :: x', y, y', _, h2, h => by
    simp at h
    exact absurd (List.mem_cons.2 (.inl h.1)) h2
  | c :: x, [], y, y', h1, _, h => by
    simp at h
    exact absurd (List.mem_cons.2 (.inl h.1.symm)) h1
  | c :: x, c' :: x', y, y', h1, h2, h => by
    simp at h
    obtain ⟨rfl, h⟩ := h
    obtain ⟨rfl, rfl⟩ := split_at (fun q => h1 (List.mem_cons_of_mem _ q)) (fun q => h2 (List.mem_cons_of_mem _ q)) h
    exact ⟨rfl, rfl⟩
def valD (l : List UInt8) : Nat := l.foldl (fun a c => a * 10 + (c.toNat - 48)) 0
theorem valD_snoc (l : List UInt8) (c : UInt8) : valD (l ++ [c]) = valD l * 10 + (c.toNat - 48) := by unfold valD; rw [List.foldl_append]; rfl
theorem dig_toNat {d : Nat} (h : d < 10) : (UInt8.ofNat (48 + d)).toNat = 48 + d := by
  rw [UInt8.toNat_ofNat']; omega
theorem valD_dec : ∀ u : Nat, valD (Lib.decDigits u) = u := by
  intro u
  induction u using Nat.strongRecOn with
  | ind u ih =>
    rw [Lib.decDigits]
    split
    · next h => unfold valD; simp only [List.foldl_cons, List.foldl_nil]; rw [dig_toNat h]; omega
    · next h => rw [valD_snoc, ih (u / 10) (by omega), dig_toNat (by omega)]; omega
theorem dec_range : ∀ (u : Nat), ∀ c ∈ Lib.decDigits u, 48 ≤ c.toNat ∧ c.toNat ≤ 57 := by
  intro u
  induction u using Nat.strongRecOn with
  | ind u ih =>
    intro c hc
    rw [Lib.decDigits] at hc
    split at hc
    · next h => rw [List.mem_singleton] at hc; subst hc; rw [dig_toNat h]; omega
    · next h =>
      rcases List.mem_append.1 hc with q | q
      · exact ih (u / 10) (by omega) c q
      · rw [List.mem_singleton] at q; subst q; rw [dig_toNat (by omega)]; omega
theorem dec_ne (u : Nat) : Lib.decDigits u ≠ [] := by
  rw [Lib.decDigits]; split <;> simp
theorem itoa_range (n : Int) : ∀ c ∈ Lib.itoa n, c.toNat = 45 ∨ (48 ≤ c.toNat ∧ c.toNat ≤ 57) := by
  intro c hc
  unfold Lib.itoa at hc
  split at hc
  · rcases List.mem_cons.1 hc with rfl | q
    · exact .inl rfl
    · exact .inr (dec_range _ c q)
  · exact .inr (dec_range _ c hc)
theorem itoa_ne (n : Int) : Lib.itoa n ≠ [] := by
  unfold Lib.itoa; split
  · simp
  · exact dec_ne _
theorem itoa_inj {m n : Int} (h : Lib.itoa m = Lib.itoa n) : m = n := by
  unfold Lib.itoa at h
  split at h <;> split at h
  · injection h with _ h
    have := congrArg valD h
    rw [valD_dec, valD_dec] at this; omega
  · have := dec_range n.toNat 45 (by rw [← h]; exact List.mem_cons_self ..)
    have : (45 : UInt8).toNat = 45 := rfl
    omega
  · have := dec_range m.toNat 45 (by rw [h]; exact List.mem_cons_self ..)
    have : (45 : UInt8).toNat = 45 := rfl
    omega
  · have := congrArg valD h
    rw [valD_dec, valD_dec] at this; omega
theorem row_inj {a b : Arc} (ha : 0 ≤ a.w) (hb : 0 ≤ b.w) {y z : List UInt8} (h : rowName a ++ y = rowName b ++ z) : a = b ∧ y = z := by
  have e44 : (44 : UInt8).toNat = 44 := rfl
  have e59 : (59 : UInt8).toNat = 59 := rfl
  have ni : ∀ n : Int, (44 : UInt8) ∉ Lib.itoa n := fun n q => by have := itoa_range n _ q; omega
  have nd : ∀ x : Int, (59 : UInt8) ∉ digs x := fun x q => by have := dec_range _ _ q; omega
  unfold rowName at h
  simp only [List.append_assoc, List.singleton_append] at h
  obtain ⟨h1, h⟩ := split_at (ni _) (ni _) h
  obtain ⟨h2, h⟩ := split_at (ni _) (ni _) h
  obtain ⟨h3, h⟩ := split_at (nd _) (nd _) h
  refine ⟨?_, h⟩
  have q1 := itoa_inj h1
  have q2 := itoa_inj h2
  have q3 := congrArg valD h3
  unfold digs at q3
  rw [valD_dec, valD_dec] at q3
  obtain ⟨u, v, w⟩ := a
  obtain ⟨u', v', w'⟩ := b
  simp only at q1 q2 q3 ha hb
  have : w = w' := by omega
  subst q1 q2 this; rfl
theorem row_head (a : Arc) : ∃ c r, rowName a = c :: r ∧ c.toNat ≤ 57 := by
  have hn := itoa_ne a.u
  have hr := itoa_range a.u
  unfold rowName
  cases h : Lib.itoa a.u with
  | nil => exact absurd h hn
  | cons c r =>
    refine ⟨c, _, rfl, ?_⟩
    have := hr c (by rw [h]; exact List.mem_cons_self ..)
    omega
theorem bit_head (b : Bool) (d : List Bool) : ∃ c r, bitsName (b :: d) = c :: r ∧ 102 ≤ c.toNat := by
  cases b
  · exact ⟨102, _, rfl, by decide⟩
  · exact ⟨116, _, rfl, by decide⟩
theorem bits_inj : ∀ {d e : List Bool}, bitsName d = bitsName e → d = e
  | [], [], _ => rfl
  | [], b :: e, h => by
    obtain ⟨c, r, h1, _⟩ := bit_head b e
    rw [h1] at h; cases h
  | b :: d, [], h => by
    obtain ⟨c, r, h1, _⟩ := bit_head b d
    rw [h1] at h; cases h
  | b :: d, b' :: e, h => by
    have t : ∀ (x : Bool) (f : List Bool), bitsName (x :: f) = Lib.formatBool x ++ bitsName f := fun x f => rfl
    rw [t, t] at h
    cases b <;> cases b'
    · have := bits_inj (List.append_cancel_left h); rw [this]
    · exact absurd (List.cons.inj h).1 (by decide)
    · exact absurd (List.cons.inj h).1 (by decide)
    · have := bits_inj (List.append_cancel_left h); rw [this]
theorem name_inj : ∀ {l k : List Arc} {d e : List Bool}, (∀ a ∈ l, 0 ≤ a.w) → (∀ a ∈ k, 0 ≤ a.w) → nameOf l d = nameOf k e → l = k ∧ d = e
  | [], [], d, e, _, _, h => ⟨rfl, bits_inj h⟩
  | [], b :: k, d, e, _, _, h => by
    exfalso
    obtain ⟨c, r, h1, h2⟩ := row_head b
    have t : nameOf (b :: k) e = rowName b ++ (rowsName k ++ bitsName e) := by unfold nameOf rowsName; rw [List.flatMap_cons, List.append_assoc]
    have t2 : nameOf [] d = bitsName d := rfl
    rw [t, t2, h1] at h
    cases d with
    | nil => cases h
    | cons x d =>
      obtain ⟨c', r', h3, h4⟩ := bit_head x d
      rw [h3] at h
      have := (List.cons.inj h).1
      subst this; omega
  | a :: l, [], d, e, _, _, h => by
    exfalso
    obtain ⟨c, r, h1, h2⟩ := row_head a
    have t : nameOf (a :: l) d = rowName a ++ (rowsName l ++ bitsName d) := by unfold nameOf rowsName; rw [List.flatMap_cons, List.append_assoc]
    have t2 : nameOf [] e = bitsName e := rfl
    rw [t, t2, h1] at h
    cases e with
    | nil => cases h
    | cons x e =>
      obtain ⟨c', r', h3, h4⟩ := bit_head x e
      rw [h3] at h
      have := (List.cons.inj h).1
      subst this; omega
  | a :: l, b :: k, d, e, h1, h2, h => by
    have t : ∀ (x : Arc) (f : List Arc) (g : List Bool), nameOf (x :: f) g = rowName x ++ nameOf f g := fun x f g => by unfold nameOf rowsName; rw [List.flatMap_cons, List.append_assoc]
    rw [t, t] at h
    have hh := row_inj (h1 a (List.mem_cons_self ..)) (h2 b (List.mem_cons_self ..)) h
    have h4 := name_inj (fun x hx => h1 x (List.mem_cons_of_mem _ hx)) (fun x hx => h2 x (List.mem_cons_of_mem _ hx)) hh.2
    exact ⟨by rw [hh.1, h4.1], h4.2⟩

/-! ### how many turners are still to come -/
def undL (S : LinP.Sys (List Arc)) (d : List Bool) : Nat → Nat
  | 0 => 0
  | i + 1 => undL S d i + (if S.turn i && !isD d i then 1 else 0)
def und (S : LinP.Sys (List Arc)) (d : List Bool) : Nat := undL S d S.n
theorem undL_same {S : LinP.Sys (List Arc)} {d e : List Bool} (h : ∀ i, S.turn i = true → isD d i = isD e i) : ∀ n, undL S d n = undL S e n
  | 0 => rfl
  | n + 1 => by
    unfold undL
    rw [undL_same h n]
    cases ht : S.turn n
    · rfl
    · rw [h n ht]
theorem undL_set {S : LinP.Sys (List Arc)} {d : List Bool} {i : Nat} (ht : S.turn i = true) (hd : isD d i = false) (hi : i < d.length) : ∀ n, undL S (d.set i true) n + (if i < n then 1 else 0) = undL S d n
  | 0 => by simp [undL]
  | n + 1 => by
    have ih := undL_set ht hd hi n
    unfold undL
    rw [isD_set hi]
    by_cases h : i = n
    · subst h
      rw [if_neg (Nat.lt_irrefl _)] at ih
      rw [if_pos rfl, hd, ht, if_pos (Nat.lt_succ_self _)]
      simp
      omega
    · rw [if_neg h]
      by_cases h2 : i < n
      · rw [if_pos h2] at ih; rw [if_pos (show i < n + 1 by omega)]; omega
      · rw [if_neg h2] at ih; rw [if_neg (show ¬ i < n + 1 by omega)]; omega
theorem und_set {S : LinP.Sys (List Arc)} {d : List Bool} {i : Nat} (ht : S.turn i = true) (hd : isD d i = false) (hi : i < S.n) (hl : d.length = S.n) : und S (d.set i true) + 1 = und S d := by
  have := undL_set ht hd (by omega) S.n (d := d)
  rw [if_pos hi] at this
  exact this
theorem und_rd {S : LinP.Sys (List Arc)} {d : List Bool} {L : List Nat} {g : List Arc} (hL : ∀ i ∈ L, i < d.length) : und S (rd S L g d) = und S d := undL_same (fun i ht => by rw [isD_rd hL, ht]; simp) _
/-- What each state keeps: its row of bools is as long as the points; its graph rises, and is not too long. -/
structure GS (S : LinP.Sys (List Arc)) (K : Nat) (s : St (List Arc)) : Prop where
  len : s.2.length = S.n
  rises : Rises s.1
  few : s.1.length + und S s.2 ≤ K
theorem GS.rd {S : LinP.Sys (List Arc)} {K : Nat} {s : St (List Arc)} (h : GS S K s) {L : List Nat} (hL : ∀ i ∈ L, i < S.n) : GS S K (s.1, rd S L s.1 s.2) :=
  ⟨by rw [rd_len]; exact h.len, h.rises, by rw [und_rd (by rw [h.len]; exact hL)]; exact h.few⟩
theorem GS.turn {ps : List Pt} {K : Nat} {s : St (List Arc)} (h : GS (sysOf ps) K s) {i : Nat} (hi : i < ps.length) (ht : (sysOf ps).turn i = true) (hd : isD s.2 i = false) : GS (sysOf ps) K ((sysOf ps).nx i s.1, s.2.set i true) := by
  refine ⟨by rw [List.length_set]; exact h.len, rises_do h.rises _, ?_⟩
  have h1 := und_set ht hd hi h.len
  have h2 := len_do s.1 (opOf (ptAt ps i))
  have h3 := h.few
  have h4 : (doG s.1 (opOf (ptAt ps i))).length + und (sysOf ps) (s.2.set i true) ≤ K := by omega
  exact h4
theorem GS.path {ps : List Pt} {K : Nat} {t s : St (List Arc)} (h : GS (sysOf ps) K t) {L : List Nat} (hL : ∀ i ∈ L, i < ps.length) (hp : LPath (sysOf ps) L t s) : GS (sysOf ps) K s := by
  induction hp with
  | start => exact h.rd hL
  | next i _ h2 h3 h4 _ ih => exact (ih.turn (hL i h2) h4 h3).rd hL

/-! ### add -/
section
variable (S : LinP.Sys (List Arc)) (L : List Nat)
def succ (s : St (List Arc)) (i : Nat) : St (List Arc) := (S.nx i s.1, rd S L (S.nx i s.1) (s.2.set i true))
def goes (s : St (List Arc)) (i : Nat) : Bool := !isD s.2 i && S.turn i && S.fit i s.1
def closedAt (out : List (St (List Arc))) (s : St (List Arc)) : Prop := ∀ i ∈ L, goes S s i = true → succ S L s i ∈ out
structure AddPost (out : List (St (List Arc))) (n : St (List Arc)) (out' : List (St (List Arc))) : Prop where
  more : ∃ news, out' = out ++ news ∧ (∀ s ∈ news, closedAt S L out' s) ∧ ∀ s ∈ news, LPath S L n s
  has : (n.1, rd S L n.1 n.2) ∈ out'
  nodup : out'.Nodup
/-- In the midst of a call: the first j live points have been tried. -/
structure AddInv (out : List (St (List Arc))) (n : St (List Arc)) (j : Nat) (out' : List (St (List Arc))) : Prop where
  more : ∃ news, out' = out ++ (n.1, rd S L n.1 n.2) :: news ∧ (∀ s ∈ news, closedAt S L out' s) ∧ ∀ s ∈ news, LPath S L n s
  done : ∀ i ∈ L.take j, goes S (n.1, rd S L n.1 n.2) i = true → succ S L (n.1, rd S L n.1 n.2) i ∈ out'
  nodup : out'.Nodup
variable {S L}
theorem AddPost.old {out : List (St (List Arc))} {n : St (List Arc)} (hn : out.Nodup) (h : (n.1, rd S L n.1 n.2) ∈ out) : AddPost S L out n out :=
  ⟨⟨[], by simp, by simp, by simp⟩, h, hn⟩
theorem AddInv.first {out : List (St (List Arc))} {n : St (List Arc)} (hn : out.Nodup) (h : (n.1, rd S L n.1 n.2) ∉ out) : AddInv S L out n 0 (out ++ [(n.1, rd S L n.1 n.2)]) := by
  refine ⟨⟨[], rfl, by simp, by simp⟩, by simp, ?_⟩
  rw [List.nodup_append]
  exact ⟨hn, by simp, fun a ha b hb e => by rw [List.mem_singleton] at hb; subst e hb; exact h ha⟩
theorem take_snoc_mem {j i x : Nat} (h : L[j]? = some i) (hx : x ∈ L.take (j + 1)) : x ∈ L.take j ∨ x = i := by
  obtain ⟨hl, he⟩ := List.getElem?_eq_some_iff.1 h
  rw [List.take_succ_eq_append_getElem hl, List.mem_append, List.mem_singleton, he] at hx
  exact hx
theorem AddInv.skip {out out' : List (St (List Arc))} {n : St (List Arc)} {j i : Nat} (h : AddInv S L out n j out') (hi : L[j]? = some i) (hg : goes S (n.1, rd S L n.1 n.2) i = false) : AddInv S L out n (j + 1) out' :=
  ⟨h.more, (fun x hx hx2 => by
    rcases take_snoc_mem hi hx with q | rfl
    · exact h.done x q hx2
    · rw [hg] at hx2; cases hx2), h.nodup⟩
theorem path_join {t s u : St (List Arc)} {i : Nat} (h : LPath S L t s) (hi : i ∈ L) (hg : goes S s i = true) (h2 : LPath S L (S.nx i s.1, s.2.set i true) u) : LPath S L t u := by
  unfold goes at hg
  simp only [Bool.and_eq_true, Bool.not_eq_true'] at hg
  induction h2 with
  | start => exact .next i h hi hg.1.1 hg.1.2 hg.2
  | next k _ a b c d ih => exact .next k ih a b c d
theorem AddInv.step {out out1 out2 : List (St (List Arc))} {n : St (List Arc)} {j i : Nat} (h : AddInv S L out n j out1) (hi : L[j]? = some i) (hg : goes S (n.1, rd S L n.1 n.2) i = true)
    (hp : AddPost S L out1 (S.nx i n.1, (rd S L n.1 n.2).set i true) out2) : AddInv S L out n (j + 1) out2 := by
  obtain ⟨news, e1, c1, p1⟩ := h.more
  obtain ⟨news2, e2, c2, p2⟩ := hp.more
  have sub : ∀ s, s ∈ out1 → s ∈ out2 := fun s hs => by rw [e2]; exact List.mem_append_left _ hs
  refine ⟨⟨news ++ news2, by rw [e2, e1]; simp, fun s hs => ?_, fun s hs => ?_⟩, fun x hx hx2 => ?_, hp.nodup⟩
  · rcases List.mem_append.1 hs with q | q
    · exact fun x hx hx2 => sub _ (c1 s q x hx hx2)
    · exact c2 s q
  · rcases List.mem_append.1 hs with q | q
    · exact p1 s q
    · exact path_join (LPath.start (S := S) (L := L) (t := n)) (List.mem_of_getElem? hi) hg (p2 s q)
  · rcases take_snoc_mem hi hx with q | rfl
    · exact sub _ (h.done x q hx2)
    · exact hp.has
theorem AddInv.last {out out' : List (St (List Arc))} {n : St (List Arc)} {j : Nat} (h : AddInv S L out n j out') (hj : j = L.length) : AddPost S L out n out' := by
  obtain ⟨news, e1, c1, p1⟩ := h.more
  refine ⟨⟨(n.1, rd S L n.1 n.2) :: news, e1, fun s hs => ?_, fun s hs => ?_⟩, by rw [e1]; simp, h.nodup⟩
  · rcases List.mem_cons.1 hs with rfl | q
    · intro i hi hg
      exact h.done i (by rw [List.take_of_length_le (by omega)]; exact hi) hg
    · exact c1 s q
  · rcases List.mem_cons.1 hs with rfl | q
    · exact .start
    · exact p1 s q
end
end Go.Proofs.YtpdfmfkoopdfgaaGreatDoor
end
section
namespace Go.Proofs.YtpdfmfkoopdfgaaGreatDoor
set_option maxRecDepth 100000
open Go.RowKit Aid Gr Hs LinP

theorem zero139 (w : World) : (zeroValue 139).run Tryz.prog w = .ok (.agg #[]) w := by kernel_rfl
theorem law9 : Go.Maps.Keyed Tryz.prog 9 := Go.Maps.string_keyed Tryz.underlying9
theorem info66 : (Tryz.prog.info? 66).map (fun i => (i.zero, i.size, i.bytes)) = some (some (.agg #[.slice none 0 0, .slice none 0 0]), 2, 48) := by kernel_rfl
def hitB (out : List Nw) (s : List UInt8) : Bool := (keysOfOut out).any fun x => x.sameKey (.string s)
theorem has_out (out : List Nw) (s : List UInt8) : Maps.has (Maps.setOf (H := Unit) (.agg []) (keysOfOut out)) (.string s) = hitB out s :=
  Maps.has_setOf _ _ _ fun x hx => by
    obtain ⟨n, _, rfl⟩ := List.mem_map.1 hx
    trivial
theorem look_run {E : Env} {w : World} {v : Value} {out : List Nw} (h : GI E w v out) (s : ByteArray) (hs : s.size ≤ maxLen) :
    (Instr.lookup 136 (.map (some E.bm)) (.string s) true).run Tryz.prog w = .ok (.tuple #[.agg #[], .bool (hitB out s.data.toList)]) w := by
  obtain ⟨x, ps, hrun, hx⟩ := h.hm.look_ok (t := 136) (e := 139) law9 Tryz.underlying136 (zero139 w) unitElem_mk (WideMaps.keyOf_string_mk Tryz.underlying9 hs)
  obtain ⟨rfl, _⟩ := unitElem_inv hx
  rw [has_out] at hrun
  exact hrun
theorem put_run {E : Env} {w : World} {v : Value} {out : List Nw} (h : GI E w v out) (s : ByteArray) (hs : s.size ≤ maxLen) (hn : (keysOfOut out).length < maxLen) :
    ∃ w', (Instr.mapUpdate 136 (.map (some E.bm)) (.string s) (.agg #[])).run Tryz.prog w = .ok () w' ∧ w'.ownsMap Tryz.prog 9 (unitElem (H := Unit)) E.bm ((keysOfOut out).length + 1) (Maps.setOf (.agg []) (keysOfOut out ++ [.string s.data.toList])) ∧ w.grownBy w' (some E.bm) := by
  obtain ⟨w', h1, h2, h3⟩ := h.hm.update (t := 136) (e := 139) law9 Tryz.underlying136 hn (WideMaps.keyOf_string_mk Tryz.underlying9 hs) unitElem_mk
  rw [← Maps.setOf_snoc] at h2
  exact ⟨w', h1, h2, h3⟩
theorem hit_iff {out : List Nw} {l : List Arc} {d : List Bool} (hw : ∀ a ∈ l, 0 ≤ a.w) (ho : ∀ n ∈ out, ∀ a ∈ n.l, 0 ≤ a.w) : hitB out (nameOf l d) = true ↔ (l, d) ∈ sts out := by
  unfold hitB keysOfOut sts
  rw [List.any_eq_true]
  constructor
  · rintro ⟨x, hx, hs⟩
    obtain ⟨n, hn, rfl⟩ := List.mem_map.1 hx
    have := WideAt.sameKey_eq hs
    injection this with this
    obtain ⟨e1, e2⟩ := name_inj (ho n hn) hw this
    exact List.mem_map.2 ⟨n, hn, by unfold Nw.st; rw [e1, e2]⟩
  · intro h
    obtain ⟨n, hn, he⟩ := List.mem_map.1 h
    unfold Nw.st at he
    injection he with e1 e2
    refine ⟨_, List.mem_map.2 ⟨n, hn, rfl⟩, ?_⟩
    rw [e1, e2]
    simp [Lit.sameKey]
theorem ok_pos {w : World} {n : Nw} (h : NwOk w n) : ∀ a ∈ n.l, 0 ≤ a.w := fun a ha => (h.1.2.1 a ha).2.2.2.2.1
theorem name_le {l : List Arc} {d : List Bool} (hf : ∀ a ∈ l, a.Fine) (h1 : l.length ≤ 1000) (h2 : d.length ≤ 1000000) : (nameOf l d).length ≤ 100000000 := by
  have h3 := rowsName_le l hf
  have h4 := bitsName_le d
  unfold nameOf
  rw [List.length_append]
  omega
/-- What a call of add leaves. -/
def AddOut (E : Env) (K : Nat) (n : Nw) (out : List Nw) (v : Value) (w : World) (w' : World) : Prop :=
  ∃ v' out', GI E w' v' out' ∧ AK E.bo E.bm v w w' ∧ Nx v v' w ∧ (∃ news, out' = out ++ news) ∧ AddPost (sysOf E.ps) E.L (sts out) n.st (sts out')
/-- Every cell reads as it did. -/
def CellsKept (w w' : World) : Prop := ∀ p x, w.cell? p = some x → w'.cell? p = some x
theorem Arcs.keep {w w' : World} {A : Option Addr} {l : List Arc} (h : Arcs w A l) (hk : CellsKept w w') : Arcs w' A l :=
  ⟨h.1, h.2.1, fun hp => by
    obtain ⟨b, off, hA, hc⟩ := h.2.2 hp
    exact ⟨b, off, hA, fun i a hi => ⟨hk _ _ (hc i a hi).1, hk _ _ (hc i a hi).2.1, hk _ _ (hc i a hi).2.2⟩⟩⟩
theorem Sl.keep {w w' : World} {A : Option Addr} {xs : List Value} (h : Sl w A xs) (hk : CellsKept w w') : Sl w' A xs := fun hp => by
  obtain ⟨b, off, hA, hc⟩ := h hp
  exact ⟨b, off, hA, fun j u hu => hk _ _ (hc j u hu)⟩
theorem NwOk.keep {w w' : World} {n : Nw} (h : NwOk w n) (hk : CellsKept w w') : NwOk w' n := ⟨Arcs.keep h.1 hk, Sl.keep h.2 hk⟩
theorem kept_map {w w' : World} {bm n : Nat} {D : DataW Unit} (hm : w.ownsMap Tryz.prog 9 (unitElem (H := Unit)) bm n D) (hg : w.grownBy w' (some bm)) : CellsKept w w' := fun p x hx => by
  obtain ⟨es, clock, hb, _⟩ := hm
  have hne : p.block ≠ bm := fun e => by
    unfold World.cell? at hx
    rw [e, hb] at hx
    simp at hx
  exact (World.cell?_of_block (w := w) (hg.block _ (World.block_lt_of_cell? _ _ hx) (fun e => hne (Option.some.inj e)))).trans hx
theorem AK.ofMap {bo bm : Nat} {v : Value} {w w' : World} (hg : w.grownBy w' (some bm)) : AK bo bm v w w' := ⟨hg.os, hg.tape, hg.output, hg.size, fun k hk _ h2 _ => hg.block k hk (fun e => h2 (Option.some.inj e))⟩
theorem Box2.keep {w w' : World} {b : Nat} {v0 v1 : Value} (h : Box2 w b v0 v1) (hb : w'.heap[b]? = w.heap[b]?) : Box2 w' b v0 v1 :=
  ⟨(World.cell?_of_block (w := w) hb).trans h.c0, (World.cell?_of_block (w := w) hb).trans h.c1, (World.frozen?_of_block (w := w) hb).trans h.f0, (World.frozen?_of_block (w := w) hb).trans h.f1⟩
/-- In the midst of add's loop: j live points have been tried. -/
def LR (E : Env) (n np : Nw) (v0 v1 : Value) (out : List Nw) (v : Value) (w : World) (bn : Nat) (j : Nat) (wr : World) : Prop :=
  ∃ v' out', GI E wr v' out' ∧ Box2 wr bn v0 v1 ∧ AK E.bo E.bm v w wr ∧ Nx v v' w ∧ (∃ news, out' = out ++ np :: news) ∧ AddInv (sysOf E.ps) E.L (sts out) n.st j (sts out') ∧ v'.ownBlock ≠ some bn
theorem sts_append (a b : List Nw) : sts (a ++ b) = sts a ++ sts b := by unfold sts; rw [List.map_append]
theorem keys_append (a : List Nw) (n : Nw) : keysOfOut (a ++ [n]) = keysOfOut a ++ [.string (nameOf n.l n.d)] := by unfold keysOfOut; rw [List.map_append]; rfl
theorem arcs_box5 {w : World} {X : Option Addr} {l : List Arc} {b : Nat} {t : TypeId} {z : Nat × Nat} (h : Arcs w X l) (hb : w.heap[b]? = some (.cells #[.int .i64 0, .bool false, .int .i64 0, .int .u64 0, .slice none 0 0] t z)) (u0 u1 u2 u3 u4 : Value) :
    Arcs (((((w.setCell ⟨b, 0, none⟩ u0).setCell ⟨b, 1, none⟩ u1).setCell ⟨b, 2, none⟩ u2).setCell ⟨b, 3, none⟩ u3).setCell ⟨b, 4, none⟩ u4) X l := by
  refine ⟨h.1, h.2.1, fun hp => ?_⟩
  obtain ⟨p, off, hA, hc⟩ := h.2.2 hp
  have hne : p ≠ b := fun e => by
    subst e
    obtain ⟨c0, c1, _⟩ := hc 0 l[0] (List.getElem?_eq_getElem hp)
    rw [Lib.cell_of_heap hb] at c0 c1
    rw [Nat.zero_mul, Nat.add_zero] at c0 c1
    rcases off with _ | _ | _ | _ | _ | off
    · simp at c1
    · simp at c0
    · simp at c1
    · simp at c0
    · simp at c0
    · simp at c0
  refine ⟨p, off, hA, fun i a hi => ?_⟩
  obtain ⟨c0, c1, c2⟩ := hc i a hi
  have k : ∀ o x, w.cell? ⟨p, o, none⟩ = some x → (((((w.setCell ⟨b, 0, none⟩ u0).setCell ⟨b, 1, none⟩ u1).setCell ⟨b, 2, none⟩ u2).setCell ⟨b, 3, none⟩ u3).setCell ⟨b, 4, none⟩ u4).cell? ⟨p, o, none⟩ = some x := fun o x hx => by
    rw [cell_set_ne _ _ _ _ hne, cell_set_ne _ _ _ _ hne, cell_set_ne _ _ _ _ hne, cell_set_ne _ _ _ _ hne, cell_set_ne _ _ _ _ hne]; exact hx
  exact ⟨k _ _ c0, k _ _ c1, k _ _ c2⟩
end Go.Proofs.YtpdfmfkoopdfgaaGreatDoor
end
