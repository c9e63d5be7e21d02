/- LAll0, PAll, PAll2, LAll, LOrder, PHist. -/
import Derived.Test.YtpdfmfkoopdfgaaGreatDoorB28
import Derived.Test.YtpdfmfkoopdfgaaGreatDoorB31
import Derived.Test.YtpdfmfkoopdfgaaGreatDoorB32
import Derived.Test.YtpdfmfkoopdfgaaGreatDoorB23
import Derived.Test.YtpdfmfkoopdfgaaGreatDoorB10
import Derived.Test.YtpdfmfkoopdfgaaGreatDoorB20
set_option linter.unusedVariables false
set_option linter.unusedSimpArgs false
section
namespace Go.Proofs.YtpdfmfkoopdfgaaGreatDoor
set_option maxRecDepth 100000
open Go.RowKit Aid Gr Hs LinP HeapP

set_option maxHeartbeats 2000000 in
theorem all1_any (p q : Pt) (bp pb po n c : Nat) (w : World) (hbp : w.cell? ⟨bp, 0, none⟩ = some (.slice (some ⟨pb, po, none⟩) n c)) (hq : w.cell? ⟨pb, po + 12, none⟩ = some (.int .i64 q.era)) (hn : 0 < n) :
    Calls Tryz.prog 37 #[p.val, .pointer (some ⟨bp, 0, none⟩)] w fun e w' => e = .returned (.bool (p.era != q.era)) ∧ Below w.heap.size w w' := by
  have BA := (Below.refl w.heap.size w).alloc (Nat.le_refl _) (pbx p)
  have x0 := cellL hbp BA
  have x1 := cellL hq BA
  have HB := Lib.hid BA.drew
  have e0 : (w.alloc (pbx p)).cell? ⟨w.heap.size, 12, none⟩ = some (.int .i64 p.era) := by rw [World.cell?_alloc_new]; rfl
  have n0 : (0 : Int) < (n : Int) := by omega
  clear BA hbp hq hn
  unfold Hs.Pt.val
  go_enter Tryz.func37, Tryz.ntmps37
  go_wp2
  go_region
  go_wp2
  go_ret
  exact ⟨rfl, HB.out⟩
def SaysP (gf : Nat) (lb : Array Value) (f : Pt → Bool) (w : World) : Prop :=
  ∀ (W : World) (p : Pt), Below w.heap.size w W → Calls Tryz.prog gf (#[p.val] ++ lb) W fun e w' => e = .returned (.bool (f p)) ∧ Below W.heap.size W w'
def firstP (l : List Pt) (p : Pt → Bool) : Int := match l.findIdx? p with | some i => (i : Int) | none => -1
theorem firstP_hit {l : List Pt} {p : Pt → Bool} {k : Nat} {n : Pt} (h : l[k]? = some n) (hn : ∀ (j : Nat) (a : Pt), j < k → l[j]? = some a → p a = false) (hp : p n = true) : firstP l p = k := by
  obtain ⟨hk, he⟩ := List.getElem?_eq_some_iff.1 h
  unfold firstP
  have : l.findIdx? p = some k := by
    rw [List.findIdx?_eq_some_iff_getElem]
    exact ⟨hk, by rw [he]; exact hp, fun j hj => by simp [hn j l[j] hj (List.getElem?_eq_getElem (by omega))]⟩
  rw [this]
theorem firstP_miss {l : List Pt} {p : Pt → Bool} (hn : ∀ (j : Nat) (a : Pt), l[j]? = some a → p a = false) : firstP l p = -1 := by
  unfold firstP
  have : l.findIdx? p = none := by
    rw [List.findIdx?_eq_none_iff]
    intro x hx
    obtain ⟨k, hk, hkx⟩ := List.getElem_of_mem hx
    exact hn k x (by rw [List.getElem?_eq_getElem hk, hkx])
  rw [this]
set_option maxHeartbeats 2000000 in
theorem index36 (gf : Nat) (lb : Array Value) (eg : ∀ args w, (callFunc gf args).run Tryz.prog w = .ok (.enter gf args) w) (f : Pt → Bool) (A : Option Addr) (c nn : Nat) (l : List Pt) (w : World) (hn : nn = l.length) (hl : Sl w A (Hs.flat l)) (h40 : l.length ≤ 100000) (hp : SaysP gf lb f w) :
    Calls Tryz.prog 36 #[.slice A nn c, .func (.func gf) #[] lb] w fun e w' => e = .returned (.int .i64 (firstP l f)) ∧ Below w.heap.size w w' := by
  have HN0 := Lib.hid hn
  have HL := Lib.hid hl
  have HP := Lib.hid hp
  have nb : nn ≤ 100000 := by omega
  clear hl hp hn h40
  go_enter Tryz.func36, Tryz.ntmps36
  go_wp2
  go_loopw [8] (fun i wr => ∃ k : Nat, k ≤ nn ∧ i = .int .i64 k ∧ (∀ (j : Nat) (a : Pt), j < k → l[j]? = some a → f a = false) ∧ Below w.heap.size w wr) (fun i _ => nn - (intOf i).toNat)
  case atStart => exact ⟨0, Nat.zero_le _, rfl, fun j a hj => by omega, Below.refl _ _⟩
  case round =>
    obtain ⟨k, hk, rfl, hno, hb⟩ := hrel
    have HN := Lib.hid hno
    have HB := Lib.hid hb
    clear hno hb
    by_cases hlt : k < nn
    · obtain ⟨p, hkn⟩ : ∃ n, l[k]? = some n := ⟨l[k]'(by rw [← HN0.out]; exact hlt), List.getElem?_eq_getElem _⟩
      obtain ⟨pb, po, hA, c0, c1, c2, c3, c4, c5, c6, c7, c8, c9, c10, c11, c12, c13⟩ := sl_pt (HL.out.below HB.out (Nat.le_refl _)) hkn
      subst hA
      have hcall := Lib.hid (HP.out wr p HB.out)
      have hla := Lib.hid hkn
      clear hkn
      have hhit := Lib.hid (fun hq => firstP_hit (p := f) hla.out HN.out hq)
      unfold Hs.Pt.val at hcall
      have k0 : (0 : Int) ≤ (k : Int) := by omega
      have k1 : (k : Int) < (nn : Int) := by omega
      cases hq : f p
      · rw [hq] at hcall
        have hq' := Lib.hid hq
        clear hq
        go_wp2_with (go_at_fn gf; refine hcall.out.mono ?_; rintro e w' ⟨rfl, hb'⟩; have HB' := Lib.hid (Gr.later HB.out hb'); clear hb')
        go_roundw
        case rel =>
          refine ⟨k + 1, by omega, by go_num, fun j x hj hx => ?_, HB'.out⟩
          rcases Nat.lt_or_ge j k with h | h
          · exact HN.out j x h hx
          · obtain rfl : j = k := by omega
            rw [hla.out] at hx; cases hx; exact hq'.out
        case measure => simp [intOf]; omega
      · rw [hq] at hcall
        have hf := Lib.hid (hhit.out hq)
        clear hq
        go_wp2_with (go_at_fn gf; refine hcall.out.mono ?_; rintro e w' ⟨rfl, hb'⟩; have HB' := Lib.hid (Gr.later HB.out hb'); clear hb')
        go_ret
        exact ⟨by rw [hf.out]; rfl, HB'.out⟩
    · have hf := Lib.hid (firstP_miss (l := l) (p := f) (fun j a ha => HN.out j a (by have := (List.getElem?_eq_some_iff.1 ha).1; have := HN0.out; omega) ha))
      go_wp2
      go_ret
      exact ⟨by rw [hf.out]; rfl, HB.out⟩
end Go.Proofs.YtpdfmfkoopdfgaaGreatDoor
end
section
namespace Go.Proofs.YtpdfmfkoopdfgaaGreatDoor
set_option maxRecDepth 100000
open Go.RowKit Aid Gr Hs LinP HeapP

def eraLen (ps : List Pt) : Nat := match ps.findIdx? (fun p => p.era != (ps.headD ptD).era) with | some i => i | none => ps.length
theorem eraLen_le (ps : List Pt) : eraLen ps ≤ ps.length := by
  unfold eraLen
  split
  · rename_i i h
    rw [List.findIdx?_eq_some_iff_getElem] at h
    obtain ⟨h1, _⟩ := h
    omega
  · exact Nat.le_refl _
theorem eraLen_pos {ps : List Pt} (h : ps ≠ []) : 0 < eraLen ps := by
  unfold eraLen
  split
  · rename_i i h2
    rw [List.findIdx?_eq_some_iff_getElem] at h2
    obtain ⟨h3, h4, _⟩ := h2
    rcases Nat.eq_zero_or_pos i with rfl | q
    · cases ps with
      | nil => exact absurd rfl h
      | cons p l => simp at h4
    · exact q
  · exact List.length_pos_iff.2 h
theorem firstP_era (ps : List Pt) (e : Int) (he : e = (ps.headD ptD).era) : (firstP ps (fun p => p.era != e) < 0 ∧ eraLen ps = ps.length) ∨ (0 ≤ firstP ps (fun p => p.era != e) ∧ firstP ps (fun p => p.era != e) = (eraLen ps : Int)) := by
  subst he
  unfold firstP eraLen
  cases h : ps.findIdx? (fun p => p.era != (ps.headD ptD).era) with
  | some i => exact .inr ⟨Int.natCast_nonneg i, rfl⟩
  | none => exact .inl ⟨by decide, rfl⟩
def zerosD (n : Nat) : List Bool := List.replicate n false
def tn (ps : List Pt) : Nat := ps.countP fun p => turnsB p.k
theorem isD_zeros (n i : Nat) : isD (zerosD n) i = false := by
  unfold isD zerosD
  rw [List.getD_eq_getElem?_getD, List.getElem?_replicate]
  split <;> rfl
theorem undL_zeros (ps : List Pt) (m : Nat) : ∀ i, i ≤ ps.length → undL (sysOf ps) (zerosD m) i = (ps.take i).countP fun p => turnsB p.k
  | 0, _ => by simp [undL]
  | i + 1, h => by
    rw [undL, undL_zeros ps m i (by omega), isD_zeros, List.take_succ_eq_append_getElem (by omega), List.countP_append]
    congr 1
    have e : (sysOf ps).turn i = turnsB (ps[i]'(by omega)).k := by
      show turnsB (ptAt ps i).k = _
      have := ptAt_some (ps := ps) (i := i) (by omega)
      rw [List.getElem?_eq_getElem (by omega)] at this
      rw [← Option.some.inj this]
    rw [e, List.countP_singleton]
    cases turnsB (ps[i]'(by omega)).k <;> rfl
theorem und_zeros (ps : List Pt) (m : Nat) : und (sysOf ps) (zerosD m) = tn ps := by
  unfold und tn
  have := undL_zeros ps m ps.length (Nat.le_refl _)
  rw [List.take_length] at this
  exact this
theorem tn_split (ps : List Pt) (n : Nat) : tn ps = tn (ps.take n) + tn (ps.drop n) := by
  unfold tn
  rw [← List.countP_append, List.take_append_drop]
/-- The states that an era starts with. -/
def startS (n : Nat) (gs : List (List Arc)) : List (St (List Arc)) := gs.map fun g => (g, zerosD n)
inductive AllRun (ps0 : List Pt) (g0 : List Arc) : List Pt → List (List Arc) → Prop
  | start : AllRun ps0 g0 ps0 [g0]
  | era {ps gs out} : AllRun ps0 g0 ps gs → ps ≠ [] → Era (sysOf (ps.take (eraLen ps))) (startS (eraLen ps) gs) out → AllRun ps0 g0 (ps.drop (eraLen ps)) (out.map Prod.fst)
def EBound (ps : List Pt) (fr : List (St (List Arc))) : Prop :=
  ∀ pre rest L cur, PreCut (sysOf ps) pre rest → Been (sysOf ps) fr pre L cur → ∃ R : St (List Arc) → Prop, (∀ l : List (St (List Arc)), l.Nodup → (∀ s ∈ l, R s) → l.length ≤ 1000000000000) ∧ ∀ t ∈ cur, ∀ s, LPath (sysOf ps) L t s → R s
/-- What all's eras are handed. -/
structure AIn (ps0 : List Pt) (g0 : List Arc) : Prop where
  rises : Rises g0
  few : g0.length + tn ps0 ≤ 900
  fine : ∀ p ∈ ps0, (opOf p).Fine
  small : ps0.length ≤ 100000
  bound : ∀ ps gs, AllRun ps0 g0 ps gs → ps ≠ [] → EBound (ps.take (eraLen ps)) (startS (eraLen ps) gs)
theorem AllRun.sub {ps0 : List Pt} {g0 : List Arc} {ps : List Pt} {gs : List (List Arc)} (h : AllRun ps0 g0 ps gs) : (∀ p ∈ ps, p ∈ ps0) ∧ ps.length ≤ ps0.length := by
  induction h with
  | start => exact ⟨fun p h => h, Nat.le_refl _⟩
  | era _ _ _ ih => exact ⟨fun p hp => ih.1 p (List.mem_of_mem_drop hp), by rw [List.length_drop]; omega⟩
/-- Between all's eras. -/
structure AInv (w : World) (bp : Nat) (ps0 : List Pt) (g0 : List Arc) (wr : World) (Pv : Option Addr) (pc : Nat) (ps : List Pt) (b0 : Nat) (F : Option Addr) (fc : Nat) (cur : List Nw) : Prop where
  box : wr.heap[bp]? = some (.cells #[.slice Pv ps.length pc] 72 (0, 0))
  pts : Sl wr Pv (Hs.flat ps)
  room : ps.length ≤ pc
  now : Nows wr b0 (.slice F cur.length fc) cur
  low : w.heap.size ≤ b0
  run : AllRun ps0 g0 ps (cur.map Nw.l)
  gs : ∀ n ∈ cur, Rises n.l ∧ n.l.length + tn ps ≤ 900
  few : cur.length ≤ 1000000000000
  bel : Below w.heap.size w wr
theorem info4 : (Tryz.prog.info? 4).map (fun i => (i.zero, i.size, i.bytes)) = some (some (.bool false), 1, 1) := by kernel_rfl
theorem make34 (n : Nat) (hn : n ≤ 100000) (w : World) : (Instr.makeSlice 34 (.int .i64 n) (.int .i64 n)).run Tryz.prog w = .ok (.slice (some ⟨w.heap.size, 0, none⟩) n n) (w.alloc (.cells (madeCells #[.bool false] n) 4)) := by
  obtain ⟨i0, hi0, hie⟩ := Option.map_eq_some_iff.1 info4
  have hz0 : i0.zero = some (.bool false) := congrArg Prod.fst hie
  have hz1 : i0.size = 1 := congrArg (fun x => x.2.1) hie
  have hz2 : i0.bytes = 1 := congrArg (fun x => x.2.2) hie
  have := run_makeSlice (P := Tryz.prog) w 34 4 i0 _ Tryz.underlying34 hi0 hz0 .i64 .i64 (n : Int) (n : Int) (by omega) (Int.le_refl _) (by rw [hz1]; simp; omega) (by rw [hz2]; simp; omega) (by omega)
  have e : (Value.bool false).cells = #[.bool false] := rfl
  rw [hz1, e] at this
  simpa using this
theorem made_get (n j : Nat) (hj : j < n) : (madeCells #[Value.bool false] n)[j]? = some (.bool false) := by
  unfold madeCells
  rw [Array.getElem?_map, Array.getElem?_range, if_pos hj]
  simp [Nat.mod_one]
theorem made_sl (n : Nat) (w : World) : Sl (w.alloc (.cells (madeCells #[.bool false] n) 4)) (some ⟨w.heap.size, 0, none⟩) ((zerosD n).map Value.bool) := fun _ => by
  refine ⟨w.heap.size, 0, rfl, fun j u hu => ?_⟩
  unfold zerosD at hu
  rw [List.map_replicate, List.getElem?_replicate] at hu
  split at hu
  · rename_i h
    cases hu
    rw [World.cell?_alloc_new, Nat.zero_add]
    exact made_get n j h
  · cases hu
theorem set_same {α : Type} {l : List α} {k : Nat} {v : α} (h : l[k]? = some v) : l.set k v = l := by
  obtain ⟨h1, h2⟩ := List.getElem?_eq_some_iff.1 h
  rw [← h2]; exact List.set_getElem_self h1
theorem zerosD_length (n : Nat) : (zerosD n).length = n := by unfold zerosD; simp
/-- One state's done made anew. -/
theorem Nows.fresh {w : World} {b0 g nc fc i n : Nat} {M : List Nw} {x : Nw} (h : Nows w b0 (.slice (some ⟨g, 0, none⟩) nc fc) M) (hm : M.length = nc) (hx : M[i]? = some x) :
    Nows ((w.alloc (.cells (madeCells #[.bool false] n) 4)).setCell ⟨g, i * 2 + 1, none⟩ (.slice (some ⟨w.heap.size, 0, none⟩) n n)) b0 (.slice (some ⟨g, 0, none⟩) nc fc) (M.set i ⟨x.A, x.c, x.l, some ⟨w.heap.size, 0, none⟩, n, zerosD n⟩) ∧
    w.grownBy ((w.alloc (.cells (madeCells #[.bool false] n) 4)).setCell ⟨g, i * 2 + 1, none⟩ (.slice (some ⟨w.heap.size, 0, none⟩) n n)) (some g) := by
  have hb : Below w.heap.size w (w.alloc (.cells (madeCells #[.bool false] n) 4)) := (Below.refl _ _).alloc (Nat.le_refl _) _
  have h2 := h.later hb
  have ho := h2.own
  rw [hm] at ho
  refine ⟨⟨?_, h2.kind.set _ ⟨_, _, _, rfl⟩, fun y hy => ?_⟩, gb_set (gb_below _ hb) _ _⟩
  · rw [List.length_set, hm, nflat_set]
    have e0 : (nflat M).set (i * 2) (Nw.v0 ⟨x.A, x.c, x.l, some ⟨w.heap.size, 0, none⟩, n, zerosD n⟩) = nflat M := set_same (nflat_get M i x hx).1
    have e1 : Nw.v1 ⟨x.A, x.c, x.l, some ⟨w.heap.size, 0, none⟩, n, zerosD n⟩ = .slice (some ⟨w.heap.size, 0, none⟩) n n := by unfold Nw.v1; rw [zerosD_length]
    rw [e0, e1]
    exact own_set ho _ _
  · rcases List.mem_or_eq_of_mem_set hy with q | q
    · exact Nows.ok_set h2.kind (h2.ok y q) _ _
    · subst q
      have hxo := h2.ok x (List.mem_of_getElem? hx)
      have hxn : NwOk (w.alloc (.cells (madeCells #[.bool false] n) 4)) ⟨x.A, x.c, x.l, some ⟨w.heap.size, 0, none⟩, n, zerosD n⟩ := ⟨hxo.1, made_sl n w⟩
      exact Nows.ok_set h2.kind hxn _ _
end Go.Proofs.YtpdfmfkoopdfgaaGreatDoor
end
section
namespace Go.Proofs.YtpdfmfkoopdfgaaGreatDoor
set_option maxRecDepth 100000
open Go.RowKit Aid Gr Hs LinP HeapP

theorem AInv.mid {w : World} {bp : Nat} {ps0 : List Pt} {g : List Arc} {wa : World} {pb po pc : Nat} {ps : List Pt} {b0 : Nat} {F : Option Addr} {fc nc : Nat} {cur : List Nw} (h : AInv w bp ps0 g wa (some ⟨pb, po, none⟩) pc ps b0 F fc cur) (hps : ps ≠ []) (hnc : nc = cur.length) {w3 wi : World} (hb : Below wa.heap.size wa w3) (hg : w3.grownBy wi (Value.slice F nc fc).ownBlock) :
    wi.heap[bp]? = some (.cells #[.slice (some ⟨pb, po, none⟩) ps.length pc] 72 (0, 0)) ∧ Sl wi (some ⟨pb, po, none⟩) (Hs.flat ps) ∧ Below w.heap.size w wi ∧ pb ≠ bp := by
  subst hnc
  have n3 := h.now.later hb
  have box3 := heapL h.box hb
  have pts3 := h.pts.below hb (Nat.le_refl _)
  have hl0 : 0 < ps.length := List.length_pos_iff.2 hps
  obtain ⟨pb', po', hP, hpat⟩ := sl_pt pts3 (List.getElem?_eq_getElem hl0)
  cases hP
  have x0 := hpat.1
  have hne : some bp ≠ (Value.slice F cur.length fc).ownBlock := fun e => by
    obtain ⟨c', fz, hc⟩ := own_row n3.own bp e.symm
    rw [box3] at hc; injection hc with hc; injection hc with _ hc; cases hc
  have hne2 : some pb ≠ (Value.slice F cur.length fc).ownBlock := fun e => by
    obtain ⟨a, n, c, q⟩ := n3.kind pb e.symm _ _ x0
    cases q
  have hblk : wi.heap[pb]? = w3.heap[pb]? := hg.block pb (World.block_lt_of_cell? _ _ x0) hne2
  refine ⟨(hg.block bp (lt_of_block box3) hne).trans box3, fun hp => ?_, ?_, fun e => ?_⟩
  · obtain ⟨b, off, hA, hc⟩ := pts3 hp
    cases hA
    exact ⟨pb, po, rfl, fun j u hu => cell_blk (hc j u hu) hblk⟩
  · have hb1 : Below w.heap.size w w3 := h.bel.trans (hb.mono h.bel.size)
    exact hb1.trans (below_of_gb hg hb1.size (fun k hk => Nat.le_trans h.low (n3.own.lt k hk).1))
  · subst e
    rw [Lib.cell_of_heap box3] at x0
    rcases h0 : po + 0 * 14 with _ | q
    · rw [h0] at x0; simp at x0
    · rw [h0] at x0; simp at x0
theorem sl_take {w : World} {A : Option Addr} {ps : List Pt} (h : Sl w A (Hs.flat ps)) (n : Nat) : Sl w A (Hs.flat (ps.take n)) := fun hp => by
  have e : Hs.flat ps = Hs.flat (ps.take n) ++ Hs.flat (ps.drop n) := by rw [← Hs.flat_append, List.take_append_drop]
  obtain ⟨b, off, hA, hc⟩ := h (by rw [e, List.length_append]; omega)
  exact ⟨b, off, hA, fun j u hu => hc j u (by rw [e, List.getElem?_append_left (List.getElem?_eq_some_iff.1 hu).1]; exact hu)⟩
theorem sl_drop {w : World} {pb po : Nat} {ps : List Pt} (h : Sl w (some ⟨pb, po, none⟩) (Hs.flat ps)) (n : Nat) (hn : n ≤ ps.length) : Sl w (some ⟨pb, po + n * 14, none⟩) (Hs.flat (ps.drop n)) := fun hp => by
  have e : Hs.flat ps = Hs.flat (ps.take n) ++ Hs.flat (ps.drop n) := by rw [← Hs.flat_append, List.take_append_drop]
  have el : (Hs.flat (ps.take n)).length = n * 14 := by rw [Hs.flat_length, List.length_take]; omega
  obtain ⟨b, off, hA, hc⟩ := h (by rw [e, List.length_append]; omega)
  cases hA
  refine ⟨pb, _, rfl, fun j u hu => ?_⟩
  have := hc (n * 14 + j) u (by rw [e, List.getElem?_append_right (by omega), el, Nat.add_sub_cancel_left]; exact hu)
  rwa [← Nat.add_assoc] at this
/-- What the era is handed. -/
theorem AInv.ein {w : World} {bp : Nat} {ps0 : List Pt} {g : List Arc} {wa : World} {pb po pc : Nat} {ps : List Pt} {b0 : Nat} {F : Option Addr} {fc n : Nat} {cur M : List Nw} (h : AInv w bp ps0 g wa (some ⟨pb, po, none⟩) pc ps b0 F fc cur) (ha : AIn ps0 g) (hT : Tab w) (hps : ps ≠ []) (hn : n = eraLen ps) {wi : World} (hpt : Sl wi (some ⟨pb, po, none⟩) (Hs.flat ps)) (hbel : Below w.heap.size w wi)
    (hml : M.length = cur.length) (hmm : M.map Nw.l = cur.map Nw.l) (hmd : ∀ x ∈ M, x.d = zerosD n) (hok : ∀ x ∈ M, NwOk wi x) :
    EIn wi (some ⟨pb, po, none⟩) (ps.take n) M (900 - tn (ps.drop n)) ∧ sts M = startS n (cur.map Nw.l) := by
  have hs : sts M = startS n (cur.map Nw.l) := by
    unfold startS
    rw [← hmm]
    unfold sts
    rw [List.map_map]
    apply List.map_congr_left
    intro x hx
    show (x.l, x.d) = (x.l, zerosD n)
    rw [hmd x hx]
  have hnl : n ≤ ps.length := by rw [hn]; exact eraLen_le ps
  have hsub := h.run.sub
  have hsm := ha.small
  refine ⟨⟨by omega, hT.below hbel (Nat.le_refl _), sl_take hpt n, hok, fun x hx => ?_, fun p hp => ha.fine p (hsub.1 p (List.mem_of_mem_take hp)), by rw [List.length_take]; omega, by rw [hml]; exact h.few, ?_⟩, hs⟩
  · have hxl : x.l ∈ cur.map Nw.l := by rw [← hmm]; exact List.mem_map.2 ⟨x, hx, rfl⟩
    obtain ⟨y, hy, he⟩ := List.mem_map.1 hxl
    have hg := h.gs y hy
    rw [he] at hg
    have ht := tn_split ps n
    refine ⟨?_, hg.1, ?_⟩
    · show x.d.length = (ps.take n).length
      rw [hmd x hx, zerosD_length, List.length_take]; omega
    · show x.l.length + und (sysOf (ps.take n)) x.d ≤ _
      rw [hmd x hx, und_zeros]; omega
  · have := ha.bound ps (cur.map Nw.l) h.run hps
    rw [← hn] at this
    rw [hs]
    exact this
theorem AllRun.tn_le {ps0 : List Pt} {g0 : List Arc} {ps : List Pt} {gs : List (List Arc)} (h : AllRun ps0 g0 ps gs) : tn ps ≤ tn ps0 := by
  induction h with
  | start => exact Nat.le_refl _
  | @era ps gs out _ _ _ ih => have := tn_split ps (eraLen ps); omega
/-- The next era. -/
theorem AInv.next {w : World} {bp : Nat} {ps0 : List Pt} {g : List Arc} {wa : World} {pb po pc : Nat} {ps : List Pt} {b0 : Nat} {F : Option Addr} {fc n : Nat} {cur : List Nw} (h : AInv w bp ps0 g wa (some ⟨pb, po, none⟩) pc ps b0 F fc cur) (ha : AIn ps0 g) (hbp : w.heap.size ≤ bp) (hps : ps ≠ []) (hn : n = eraLen ps) {wi w5 : World} (hbox : wi.heap[bp]? = some (.cells #[.slice (some ⟨pb, po, none⟩) ps.length pc] 72 (0, 0))) (hpt : Sl wi (some ⟨pb, po, none⟩) (Hs.flat ps)) (hbel : Below w.heap.size w wi) (hne : pb ≠ bp)
    {B : Option Addr} {d : Nat} {out : List Nw} (hno : Nows w5 wi.heap.size (.slice B out.length d) out) (her : Era (sysOf (ps.take n)) (startS n (cur.map Nw.l)) (sts out)) (hb5 : Below wi.heap.size wi w5) (hgs : ∀ x ∈ out, GS (sysOf (ps.take n)) (900 - tn (ps.drop n)) x.st) (hfew : out.length ≤ 1000000000000)
    (P' : Option Addr) (hP : pc = n ∨ P' = some ⟨pb, po + n * 14, none⟩) (m : Nat) (hm : m = ps.length - n) :
    AInv w bp ps0 g (w5.setCell ⟨bp, 0, none⟩ (.slice P' m (pc - n))) P' (pc - n) (ps.drop n) wi.heap.size B d out := by
  subst hm
  have hnl : n ≤ ps.length := by rw [hn]; exact eraLen_le ps
  have hr := h.room
  have box5 := heapL hbox hb5
  have hl0 : 0 < ps.length := List.length_pos_iff.2 hps
  have pt5 := hpt.below hb5 (Nat.le_refl _)
  have hrow : (Value.slice B out.length d).ownBlock ≠ some bp := fun e => by
    obtain ⟨c', fz, hc⟩ := own_row hno.own bp e
    rw [box5] at hc; injection hc with hc; injection hc with _ hc; cases hc
  have hdl : (ps.drop n).length = ps.length - n := List.length_drop ..
  have hbw : Below w.heap.size w w5 := hbel.trans (hb5.mono hbel.size)
  refine ⟨by rw [hdl]; exact one_setCell box5, fun hp => ?_, by rw [hdl]; omega, ⟨ownsRow_setCell_other hno.own hrow _, all_blk hno.kind (fun k hk => Below.heap_setCell w5 ⟨bp, 0, none⟩ _ k (fun e => hrow (by rw [hk]; exact congrArg some e))), fun x hx => ?_⟩, hbel.size, ?_, fun x hx => ?_, hfew, ?_⟩
  · rcases hP with q | q
    · have : ps.length = n := by omega
      rw [Hs.flat_length, hdl] at hp
      omega
    · subst q
      obtain ⟨b, off, hA, hc⟩ := sl_drop pt5 n hnl hp
      cases hA
      exact ⟨pb, _, rfl, fun j u hu => (cell_set_ne w5 ⟨bp, 0, none⟩ ⟨pb, _, none⟩ _ hne).trans (hc j u hu)⟩
  · have hk := hno.ok x hx
    exact ⟨arcs_set hk.1 box5 (fun k n e => by cases e), bools_set hk.2 box5 (fun k e => by cases e)⟩
  · have e1 : out.map Nw.l = (sts out).map Prod.fst := by
      unfold sts
      rw [List.map_map]; rfl
    rw [e1, hn]
    rw [hn] at her
    exact .era h.run hps her
  · have hg := hgs x hx
    have h1 : x.l.length + und (sysOf (ps.take n)) x.d ≤ 900 - tn (ps.drop n) := hg.few
    have ht := tn_split ps n
    have hall : tn (ps.drop n) ≤ 900 := by
      have h2 := h.run.tn_le
      have h3 := ha.few
      omega
    exact ⟨hg.rises, by omega⟩
  · exact hbw.setCell (p := ⟨bp, 0, none⟩) hbp _
end Go.Proofs.YtpdfmfkoopdfgaaGreatDoor
end
section
namespace Go.Proofs.YtpdfmfkoopdfgaaGreatDoor
set_option maxRecDepth 100000
open Go.RowKit Aid Gr Hs LinP HeapP

theorem eraLen_le_of {n : Nat} {ps : List Pt} (h : n = eraLen ps) : n ≤ ps.length := by rw [h]; exact eraLen_le ps
def listedB (l : List Cl) : Bool := !l.any (notListed (keysOf l))
theorem call37 : ∀ args w, (callFunc 37 args).run Tryz.prog w = .ok (.enter 37 args) w := fun args w => Gr.callIn Tryz.func37 (by kernel_rfl) rfl args w
theorem says37 {bp pb po n c : Nat} {q : Pt} {w : World} (hbp : w.cell? ⟨bp, 0, none⟩ = some (.slice (some ⟨pb, po, none⟩) n c)) (hq : w.cell? ⟨pb, po + 12, none⟩ = some (.int .i64 q.era)) (hn : 0 < n) : SaysP 37 #[.pointer (some ⟨bp, 0, none⟩)] (fun p => p.era != q.era) w := fun W p hW =>
  all1_any p q bp pb po n c W (cellL hbp hW) (cellL hq hW) hn
theorem AInv.start {w w2 : World} {G : Option Addr} {gc ng : Nat} {g : List Arc} {P0 : Option Addr} {p0c : Nat} {ps0 : List Pt} (hng : ng = g.length) (ha : AIn ps0 g) (hg : Arcs w2 G g) (hb : Below w.heap.size w w2) (hp : Sl w2 P0 (Hs.flat ps0)) (hr : ps0.length ≤ p0c) :
    AInv w w2.heap.size ps0 g ((w2.alloc (.cells #[.slice P0 ps0.length p0c] 72)).alloc (.cells #[.slice G ng gc, .slice none 0 0] 66)) P0 p0c ps0 (w2.heap.size + 1) (some ⟨w2.heap.size + 1, 0, none⟩) 1 [⟨G, gc, g, none, 0, []⟩] := by
  subst hng
  have b1 : Below w2.heap.size w2 (w2.alloc (.cells #[.slice P0 ps0.length p0c] 72)) := (Below.refl _ _).alloc (Nat.le_refl _) _
  have b2 : Below w2.heap.size w2 ((w2.alloc (.cells #[.slice P0 ps0.length p0c] 72)).alloc (.cells #[.slice G g.length gc, .slice none 0 0] 66)) := b1.alloc (by simp) _
  have k1 := heap_alloc_new w2 (.cells #[.slice P0 ps0.length p0c] 72)
  have k2 := heap_alloc_new (w2.alloc (.cells #[.slice P0 ps0.length p0c] 72)) (.cells #[.slice G g.length gc, .slice none 0 0] 66)
  have k3 := heapL k1 ((Below.refl _ _).alloc (Nat.le_refl _) (.cells #[.slice G g.length gc, .slice none 0 0] 66))
  simp only [World.size_alloc] at k2
  refine ⟨k3, hp.below b2 (Nat.le_refl _), hr, ⟨⟨rfl, .inr ⟨_, 1, _, rfl, Nat.le_refl _, k2, Nat.le_refl _, by decide, rfl, rfl⟩⟩, fun g' hg' j x hx => ?_, fun n hn => ?_⟩, Nat.le_trans hb.size (Nat.le_succ _), .start, fun n hn => ?_, by simp, hb.trans (b2.mono hb.size)⟩
  · obtain rfl : w2.heap.size + 1 = g' := Option.some.inj hg'
    rw [Lib.cell_of_heap k2] at hx
    rcases j with _ | _ | j
    · simp at hx; exact ⟨_, _, _, hx.symm⟩
    · simp at hx; exact ⟨_, _, _, hx.symm⟩
    · simp at hx
  · rw [List.mem_singleton] at hn
    subst hn
    exact ⟨hg.below b2 (Nat.le_refl _), fun q => by simp at q⟩
  · rw [List.mem_singleton] at hn
    subst hn
    exact ⟨ha.rises, ha.few⟩
set_option maxHeartbeats 16000000 in
theorem all_any (G : Option Addr) (gc ng : Nat) (g : List Arc) (H : Option Addr) (hc nh : Nat) (l : List Cl) (w : World) (hng : ng = g.length) (hnh : nh = l.length) (hg : Arcs w G g) (hh : Cls w H l) (h40 : l.length ≤ 1000) (hb : ∀ a ∈ l, a.list.length ≤ 9223372036854775807) (ht : Tab w) (ha : listedB l = true → AIn (pointsOf l) g) :
    Calls Tryz.prog 21 #[.slice G ng gc, .slice H nh hc] w fun e w' => ∃ B d out, e = .returned (.slice B out.length d) ∧ Sl w' B (nflat out) ∧ (∀ n ∈ out, NwOk w' n) ∧ out.length ≤ 1000000000000 ∧ Below w.heap.size w w' ∧ (if listedB l then AllRun (pointsOf l) g [] (out.map Nw.l) else out = []) := by
  have D34 : Hid (Calls Tryz.prog 34 #[.slice H nh hc] w fun e w' => e = .returned (.bool (listedB l)) ∧ Below w.heap.size w w') := Lib.hid (listedH_any H hc nh l w hnh hh h40 hb)
  have HA := Lib.hid ha
  have HT := Lib.hid ht
  have HG := Lib.hid hg
  have HNG := Lib.hid hng
  have D35 : Hid (∀ W, Below w.heap.size w W → Calls Tryz.prog 35 #[.slice H nh hc] W fun e w' => ∃ B d, e = .returned (.slice B (pointsOf l).length d) ∧ Sl w' B (flat (pointsOf l)) ∧ Below W.heap.size W w' ∧ (pointsOf l).length ≤ d) := Lib.hid fun W hW => points_any H hc nh l W hnh (hh.below hW (Nat.le_refl _)) h40 hb
  clear ha ht hg hng hnh hh h40 hb
  cases hq : listedB l
  · rw [hq] at D34
    clear hq
    go_enter Tryz.func21, Tryz.ntmps21
    go_wp2_with (go_at_call 34; ((with_reducible refine D34.out.mono ?_); rintro e w1 ⟨rfl, hb1⟩; have HB1 := Lib.hid hb1; clear hb1))
    go_ret
    exact ⟨none, 0, [], rfl, fun h => by simp [nflat] at h, by simp, by simp, HB1.out, by simp⟩
  · rw [hq] at D34
    have HAI := Lib.hid (HA.out hq)
    clear hq HA
    generalize pointsOf l = ps0 at D35 HAI ⊢
    go_enter Tryz.func21, Tryz.ntmps21
    go_wp2_with (first
      | (go_at_call 34; ((with_reducible refine D34.out.mono ?_); rintro e w1 ⟨rfl, hb1⟩; have HB1 := Lib.hid hb1; clear hb1))
      | (go_at_call 35; ((with_reducible refine (D35.out _ HB1.out).mono ?_); rintro e w2 ⟨P0, p0c, rfl, hp2, hb2, hr2⟩; have HP2 := Lib.hid hp2; have HB2 := Lib.hid hb2; have HR2 := Lib.hid hr2; clear hp2 hb2 hr2)))
    have I0 := Lib.hid (AInv.start (gc := gc) HNG.out HAI.out (HG.out.below (HB1.out.trans (HB2.out.mono HB1.out.size)) (Nat.le_refl _)) (HB1.out.trans (HB2.out.mono HB1.out.size)) HP2.out HR2.out)
    have hbl : w.heap.size ≤ w2.heap.size := (HB1.out.trans (HB2.out.mono HB1.out.size)).size
    clear D34 D35 HB1 HB2 HP2 HR2 HG HNG
    obtain ⟨bp, hbp⟩ : ∃ bp, bp = w2.heap.size := ⟨_, rfl⟩
    rw [← hbp] at I0 hbl ⊢
    clear hbp
    have HBL := Lib.hid hbl
    clear hbl
    go_loopw [6] (fun x6 wr => ∃ (ps : List Pt) (Pv : Option Addr) (pc b0 : Nat) (F : Option Addr) (fc : Nat) (cur : List Nw), x6 = .slice F cur.length fc ∧ AInv w bp ps0 g wr Pv pc ps b0 F fc cur) (fun _ W => match W.cell? ⟨bp, 0, none⟩ with | some (.slice _ n _) => n | _ => 0)
    case atStart => exact ⟨ps0, P0, p0c, _, _, 1, [⟨G, gc, g, none, 0, []⟩], rfl, I0.out⟩
    case round =>
      clear I0
      obtain ⟨ps, Pv, pc, b0, F, fc, cur, rfl, hinv⟩ := hrel
      have HI := Lib.hid hinv
      have q0 : wr.cell? ⟨bp, 0, none⟩ = some (.slice Pv ps.length pc) := cell_of_one hinv.box
      clear hinv
      obtain ⟨wa, hwa⟩ : ∃ wa, wa = wr := ⟨_, rfl⟩
      subst hwa
      by_cases hps : ps = []
      · subst hps
        go_wp2
        go_ret
        exact ⟨F, fc, cur, rfl, own_slk2 HI.out.now.own, HI.out.now.ok, HI.out.few, HI.out.bel, HI.out.run⟩
      · have hl0 : 0 < ps.length := List.length_pos_iff.2 hps
        have hl1 : ps.length ≤ 100000 := Nat.le_trans HI.out.run.sub.2 HAI.out.small
        obtain ⟨q, hq⟩ : ∃ q, ps[0]? = some q := ⟨ps[0], List.getElem?_eq_getElem hl0⟩
        have hqe : q.era = (ps.headD ptD).era := by
          cases ps with
          | nil => exact absurd rfl hps
          | cons p r => simp at hq; rw [hq]; rfl
        obtain ⟨pb, po, hPv, hpat⟩ := sl_pt HI.out.pts hq
        subst hPv
        have hc12 : wa.cell? ⟨pb, po + 12, none⟩ = some (.int .i64 q.era) := by
          have := hpat.2.2.2.2.2.2.2.2.2.2.2.2.1
          simpa using this
        have SP := says37 q0 hc12 hl0
        have IX := Lib.hid (index36 37 #[.pointer (some ⟨bp, 0, none⟩)] call37 (fun p => p.era != q.era) (some ⟨pb, po, none⟩) pc ps.length ps wa rfl HI.out.pts hl1 SP)
        have FE := firstP_era ps q.era hqe
        have HE0 := Lib.hid (eraLen_pos hps)
        have HE1 := Lib.hid (eraLen_le ps)
        generalize firstP ps (fun p => p.era != q.era) = r at IX FE
        obtain ⟨np, hnp⟩ : ∃ np, np = ps.length := ⟨_, rfl⟩
        obtain ⟨n, hn⟩ : ∃ n, n = eraLen ps := ⟨_, rfl⟩
        rw [← hnp] at q0 IX FE hl0 hl1 HE1
        rw [← hn] at FE HE0 HE1
        have HNP := Lib.hid hnp
        have HN := Lib.hid hn
        have HPS := Lib.hid hps
        have n0 : 0 < n := HE0.out
        have n1 : n ≤ np := HE1.out
        have n2 : n ≤ 100000 := by omega
        have npc : np ≤ pc := by rw [hnp]; exact HI.out.room
        clear hnp hn hps hq hqe hpat hc12 SP
        have l0 : (0 : Int) < (np : Int) := by omega
        have r0 : (0 : Int) ≤ (n : Int) := by omega
        rcases FE with ⟨hr, hne⟩ | ⟨hr, hre⟩
        · subst hne
          go_wp2_with (go_at_call 36; ((with_reducible refine IX.out.mono ?_); rintro e w3 ⟨rfl, hb3⟩; have HB3 := Lib.hid hb3; have q3 := cellL q0 hb3; clear hb3))
          have N3 := Lib.hid (HI.out.now.later HB3.out)
          have cb : cur.length ≤ 1000000000000 := HI.out.few
          obtain ⟨nc, hnc⟩ : ∃ nc, nc = cur.length := ⟨_, rfl⟩
          rw [← hnc] at cb ⊢
          have HNC := Lib.hid hnc
          clear hnc
          go_loopw [29] (fun x29 wi => ∃ (i : Nat) (M : List Nw), i ≤ nc ∧ x29 = .int .i64 i ∧ M.length = nc ∧ M.map Nw.l = cur.map Nw.l ∧ (∀ (j : Nat) (x : Nw), j < i → M[j]? = some x → x.d = zerosD n) ∧ Nows wi b0 (.slice F nc fc) M ∧ w3.grownBy wi (Value.slice F nc fc).ownBlock) (fun x29 _ => nc - (intOf x29).toNat)
          case atStart => exact ⟨0, cur, Nat.zero_le _, rfl, HNC.out.symm, rfl, fun j x h => by omega, by have := N3.out; rwa [← HNC.out] at this, gb_refl _ _⟩
          case round =>
            obtain ⟨i, M, hi, rfl, hml, hmm, hmd, hmn, hmg⟩ := hrel
            have HML := Lib.hid hml
            have HMM := Lib.hid hmm
            have HMD := Lib.hid hmd
            have HMN := Lib.hid hmn
            have HMG := Lib.hid hmg
            clear hml hmm hmd hmn hmg N3
            obtain ⟨wi, hwi⟩ : ∃ wi, wi = wr := ⟨_, rfl⟩
            subst hwi
            by_cases hlt : i < nc
            · obtain ⟨x, hx⟩ : ∃ x, M[i]? = some x := ⟨M[i]'(by rw [HML.out]; exact hlt), List.getElem?_eq_getElem _⟩
              obtain ⟨gF, c2, hv, c0, c1⟩ := HMN.out.cells hx
              injection hv with hF hl2 hc2
              clear hl2 hc2
              subst hF
              have HX := Lib.hid hx
              have fz : wi.frozen? ⟨gF, i * 2 + 1, none⟩ = false := by
                have := HMN.out.own
                rw [HML.out] at this
                exact own_frozen this _
              have i0 : (0 : Int) ≤ (i : Int) := by omega
              have i1 : (i : Int) < (nc : Int) := by omega
              have iz : IntKind.i64.wrap ((i : Int) + 1) = (i : Int) + 1 := by rw [IntKind.wrap_i64] <;> omega
              have n5 : ¬ ((n : Int) < 0) := by omega
              clear hx
              obtain ⟨A', c', l', B', k', d'⟩ := x
              change wi.cell? _ = some (.slice A' l'.length c') at c0
              change wi.cell? _ = some (.slice B' d'.length k') at c1
              have mk := make34 n n2 wi
              have ba := (Below.refl wi.heap.size wi).alloc (Nat.le_refl _) (.cells (madeCells #[.bool false] n) 4)
              have d1 := cellL c1 ba
              have d2 : (wi.alloc (.cells (madeCells #[.bool false] n) 4)).frozen? ⟨gF, i * 2 + 1, none⟩ = false := by
                rw [World.frozen?_of_block (w := wi) (a := ⟨gF, i * 2 + 1, none⟩) (ba.block gF (World.block_lt_of_cell? _ _ c1))]; exact fz
              have FR := Lib.hid (HMN.out.fresh (n := n) HML.out HX.out)
              clear ba
              go_wp2
              go_roundw
              case rel =>
                refine ⟨i + 1, M.set i ⟨A', c', l', some ⟨wi.heap.size, 0, none⟩, n, zerosD n⟩, by omega, by go_num, by rw [List.length_set]; exact HML.out, ?_, fun j x hj hx => ?_, FR.out.1, gb_trans HMG.out FR.out.2⟩
                · rw [List.map_set, ← HMM.out]
                  exact set_same (by rw [List.getElem?_map, HX.out]; rfl)
                · rw [List.getElem?_set] at hx
                  split at hx
                  · split at hx
                    · cases hx; rfl
                    · cases hx
                  · exact HMD.out j x (by omega) hx
              case measure => simp [intOf]; omega
            · obtain rfl : i = nc := by omega
              have hmd : ∀ x ∈ M, x.d = zerosD n := fun x hx => by
                obtain ⟨j, hj, e⟩ := List.getElem_of_mem hx
                exact HMD.out j x (by rw [← HML.out]; exact hj) (by rw [← e]; exact List.getElem?_eq_getElem hj)
              obtain ⟨mbox, mpts, mbel, mne⟩ := HI.out.mid HPS.out HNC.out HB3.out HMG.out
              obtain ⟨ein, est⟩ := HI.out.ein HAI.out HT.out HPS.out HN.out mpts mbel (HML.out.trans HNC.out) HMM.out hmd HMN.out.ok
              have EC : Hid (Calls Tryz.prog 38 #[.slice (some ⟨pb, po, none⟩) n pc, .slice F i fc] wi fun e w' => ∃ B d out, e = .returned (.slice B out.length d) ∧ Nows w' wi.heap.size (.slice B out.length d) out ∧ Era (sysOf (ps.take n)) (startS n (cur.map Nw.l)) (sts out) ∧ Below wi.heap.size wi w' ∧ (∀ x ∈ out, GS (sysOf (ps.take n)) (900 - tn (ps.drop n)) x.st) ∧ out.length ≤ 1000000000000) := Lib.hid (by
                rw [← est]
                exact era_any (some ⟨pb, po, none⟩) pc n (ps.take n) F fc i M wi _ (by rw [List.length_take, Nat.min_eq_left (eraLen_le_of HN.out)]) HML.out.symm ein (own_slk2 HMN.out.own))
              have MB := Lib.hid mbox
              have MP := Lib.hid mpts
              have ML := Lib.hid mbel
              have MN := Lib.hid mne
              have m0 : wi.cell? ⟨bp, 0, none⟩ = some (.slice (some ⟨pb, po, none⟩) ps.length pc) := cell_of_one mbox
              rw [← HNP.out] at m0
              have hnc2 : n ≤ pc := by omega
              clear mbox mpts mbel mne ein est hmd
              have LT : Hid (∀ w5, Below wi.heap.size wi w5 → w5.cell? ⟨bp, 0, none⟩ = some (.slice (some ⟨pb, po, none⟩) n pc) ∧ w5.frozen? ⟨bp, 0, none⟩ = false) := Lib.hid fun w5 h5 => ⟨cellL m0 h5, frozen_of (heapL MB.out h5) 0⟩
              go_wp2_with (go_at_call 38; ((with_reducible refine EC.out.mono ?_); rintro e w5 ⟨B5, d5, out5, rfl, s1, s2, s3, s4, s5⟩; obtain ⟨t0, t1⟩ := LT.out w5 s3; have S1 := Lib.hid s1; have S2 := Lib.hid s2; have S3 := Lib.hid s3; have S4 := Lib.hid s4; have S5 := Lib.hid s5; clear s1 s2 s3 s4 s5))
              refine ⟨⟨ps.drop n, _, pc - n, wi.heap.size, B5, d5, out5, rfl, HI.out.next HAI.out HBL.out HPS.out HN.out MB.out MP.out ML.out MN.out S1.out S2.out S3.out S4.out S5.out _ ?_ _ ?_⟩, ?_⟩
              · by_cases h : pc = n
                · exact .inl h
                · exact .inr (if_neg h)
              · have := HNP.out; omega
              · rw [World.cell?_setCell_same _ _ _ t0, q0]
                show 0 < n
                omega
        · subst hre
          have r1 : ¬ ((n : Int) < 0) := by omega
          go_wp2_with (go_at_call 36; ((with_reducible refine IX.out.mono ?_); rintro e w3 ⟨rfl, hb3⟩; have HB3 := Lib.hid hb3; have q3 := cellL q0 hb3; clear hb3))
          have N3 := Lib.hid (HI.out.now.later HB3.out)
          have cb : cur.length ≤ 1000000000000 := HI.out.few
          obtain ⟨nc, hnc⟩ : ∃ nc, nc = cur.length := ⟨_, rfl⟩
          rw [← hnc] at cb ⊢
          have HNC := Lib.hid hnc
          clear hnc
          go_loopw [29] (fun x29 wi => ∃ (i : Nat) (M : List Nw), i ≤ nc ∧ x29 = .int .i64 i ∧ M.length = nc ∧ M.map Nw.l = cur.map Nw.l ∧ (∀ (j : Nat) (x : Nw), j < i → M[j]? = some x → x.d = zerosD n) ∧ Nows wi b0 (.slice F nc fc) M ∧ w3.grownBy wi (Value.slice F nc fc).ownBlock) (fun x29 _ => nc - (intOf x29).toNat)
          case atStart => exact ⟨0, cur, Nat.zero_le _, rfl, HNC.out.symm, rfl, fun j x h => by omega, by have := N3.out; rwa [← HNC.out] at this, gb_refl _ _⟩
          case round =>
            obtain ⟨i, M, hi, rfl, hml, hmm, hmd, hmn, hmg⟩ := hrel
            have HML := Lib.hid hml
            have HMM := Lib.hid hmm
            have HMD := Lib.hid hmd
            have HMN := Lib.hid hmn
            have HMG := Lib.hid hmg
            clear hml hmm hmd hmn hmg N3
            obtain ⟨wi, hwi⟩ : ∃ wi, wi = wr := ⟨_, rfl⟩
            subst hwi
            by_cases hlt : i < nc
            · obtain ⟨x, hx⟩ : ∃ x, M[i]? = some x := ⟨M[i]'(by rw [HML.out]; exact hlt), List.getElem?_eq_getElem _⟩
              obtain ⟨gF, c2, hv, c0, c1⟩ := HMN.out.cells hx
              injection hv with hF hl2 hc2
              clear hl2 hc2
              subst hF
              have HX := Lib.hid hx
              have fz : wi.frozen? ⟨gF, i * 2 + 1, none⟩ = false := by
                have := HMN.out.own
                rw [HML.out] at this
                exact own_frozen this _
              have i0 : (0 : Int) ≤ (i : Int) := by omega
              have i1 : (i : Int) < (nc : Int) := by omega
              have iz : IntKind.i64.wrap ((i : Int) + 1) = (i : Int) + 1 := by rw [IntKind.wrap_i64] <;> omega
              have n5 : ¬ ((n : Int) < 0) := by omega
              clear hx
              obtain ⟨A', c', l', B', k', d'⟩ := x
              change wi.cell? _ = some (.slice A' l'.length c') at c0
              change wi.cell? _ = some (.slice B' d'.length k') at c1
              have mk := make34 n n2 wi
              have ba := (Below.refl wi.heap.size wi).alloc (Nat.le_refl _) (.cells (madeCells #[.bool false] n) 4)
              have d1 := cellL c1 ba
              have d2 : (wi.alloc (.cells (madeCells #[.bool false] n) 4)).frozen? ⟨gF, i * 2 + 1, none⟩ = false := by
                rw [World.frozen?_of_block (w := wi) (a := ⟨gF, i * 2 + 1, none⟩) (ba.block gF (World.block_lt_of_cell? _ _ c1))]; exact fz
              have FR := Lib.hid (HMN.out.fresh (n := n) HML.out HX.out)
              clear ba
              go_wp2
              go_roundw
              case rel =>
                refine ⟨i + 1, M.set i ⟨A', c', l', some ⟨wi.heap.size, 0, none⟩, n, zerosD n⟩, by omega, by go_num, by rw [List.length_set]; exact HML.out, ?_, fun j x hj hx => ?_, FR.out.1, gb_trans HMG.out FR.out.2⟩
                · rw [List.map_set, ← HMM.out]
                  exact set_same (by rw [List.getElem?_map, HX.out]; rfl)
                · rw [List.getElem?_set] at hx
                  split at hx
                  · split at hx
                    · cases hx; rfl
                    · cases hx
                  · exact HMD.out j x (by omega) hx
              case measure => simp [intOf]; omega
            · obtain rfl : i = nc := by omega
              have hmd : ∀ x ∈ M, x.d = zerosD n := fun x hx => by
                obtain ⟨j, hj, e⟩ := List.getElem_of_mem hx
                exact HMD.out j x (by rw [← HML.out]; exact hj) (by rw [← e]; exact List.getElem?_eq_getElem hj)
              obtain ⟨mbox, mpts, mbel, mne⟩ := HI.out.mid HPS.out HNC.out HB3.out HMG.out
              obtain ⟨ein, est⟩ := HI.out.ein HAI.out HT.out HPS.out HN.out mpts mbel (HML.out.trans HNC.out) HMM.out hmd HMN.out.ok
              have EC : Hid (Calls Tryz.prog 38 #[.slice (some ⟨pb, po, none⟩) n pc, .slice F i fc] wi fun e w' => ∃ B d out, e = .returned (.slice B out.length d) ∧ Nows w' wi.heap.size (.slice B out.length d) out ∧ Era (sysOf (ps.take n)) (startS n (cur.map Nw.l)) (sts out) ∧ Below wi.heap.size wi w' ∧ (∀ x ∈ out, GS (sysOf (ps.take n)) (900 - tn (ps.drop n)) x.st) ∧ out.length ≤ 1000000000000) := Lib.hid (by
                rw [← est]
                exact era_any (some ⟨pb, po, none⟩) pc n (ps.take n) F fc i M wi _ (by rw [List.length_take, Nat.min_eq_left (eraLen_le_of HN.out)]) HML.out.symm ein (own_slk2 HMN.out.own))
              have MB := Lib.hid mbox
              have MP := Lib.hid mpts
              have ML := Lib.hid mbel
              have MN := Lib.hid mne
              have m0 : wi.cell? ⟨bp, 0, none⟩ = some (.slice (some ⟨pb, po, none⟩) ps.length pc) := cell_of_one mbox
              rw [← HNP.out] at m0
              have hnc2 : n ≤ pc := by omega
              clear mbox mpts mbel mne ein est hmd
              have LT : Hid (∀ w5, Below wi.heap.size wi w5 → w5.cell? ⟨bp, 0, none⟩ = some (.slice (some ⟨pb, po, none⟩) np pc) ∧ w5.frozen? ⟨bp, 0, none⟩ = false) := Lib.hid fun w5 h5 => ⟨cellL m0 h5, frozen_of (heapL MB.out h5) 0⟩
              go_wp2_with (go_at_call 38; ((with_reducible refine EC.out.mono ?_); rintro e w5 ⟨B5, d5, out5, rfl, s1, s2, s3, s4, s5⟩; obtain ⟨t0, t1⟩ := LT.out w5 s3; have S1 := Lib.hid s1; have S2 := Lib.hid s2; have S3 := Lib.hid s3; have S4 := Lib.hid s4; have S5 := Lib.hid s5; clear s1 s2 s3 s4 s5))
              refine ⟨⟨ps.drop n, _, pc - n, wi.heap.size, B5, d5, out5, rfl, HI.out.next HAI.out HBL.out HPS.out HN.out MB.out MP.out ML.out MN.out S1.out S2.out S3.out S4.out S5.out _ ?_ _ ?_⟩, ?_⟩
              · by_cases h : pc = n
                · exact .inl h
                · exact .inr (if_neg h)
              · have := HNP.out; omega
              · rw [World.cell?_setCell_same _ _ _ t0, q0]
                show np - n < np
                omega
end Go.Proofs.YtpdfmfkoopdfgaaGreatDoor
end
section
namespace Go.Proofs.YtpdfmfkoopdfgaaGreatDoor
set_option maxRecDepth 100000
open Go.RowKit Aid Gr Hs LinP HeapP

/-- What all gives: the graphs behind all eras. -/
def AllRes (l : List Cl) (g : List Arc) (gs : List (List Arc)) : Prop := if listedB l then AllRun (pointsOf l) g [] gs else gs = []
/-- What all is asked of. -/
structure AllIn (w : World) (G : Option Addr) (ng : Nat) (g : List Arc) (H : Option Addr) (nh : Nat) (l : List Cl) : Prop where
  hng : ng = g.length
  hnh : nh = l.length
  hg : Arcs w G g
  hh : Cls w H l
  h40 : l.length ≤ 1000
  hb : ∀ a ∈ l, a.list.length ≤ 9223372036854775807
  ht : Tab w
  ha : listedB l = true → AIn (pointsOf l) g
theorem all_res (G : Option Addr) (gc ng : Nat) (g : List Arc) (H : Option Addr) (hc nh : Nat) (l : List Cl) (w : World) (hi : AllIn w G ng g H nh l) :
    Calls Tryz.prog 21 #[.slice G ng gc, .slice H nh hc] w fun e w' => ∃ B d out, e = .returned (.slice B out.length d) ∧ Sl w' B (nflat out) ∧ (∀ n ∈ out, NwOk w' n) ∧ out.length ≤ 1000000000000 ∧ Below w.heap.size w w' ∧ AllRes l g (out.map Nw.l) := by
  refine (all_any G gc ng g H hc nh l w hi.hng hi.hnh hi.hg hi.hh hi.h40 hi.hb hi.ht hi.ha).mono ?_
  rintro e w' ⟨B, d, out, h1, h2, h3, h4, h5, h6⟩
  refine ⟨B, d, out, h1, h2, h3, h4, h5, ?_⟩
  unfold AllRes
  by_cases hq : listedB l = true
  · rw [if_pos hq] at h6 ⊢; exact h6
  · rw [if_neg hq] at h6 ⊢; rw [h6]; rfl
set_option maxHeartbeats 4000000 in
theorem order_any (G : Option Addr) (gc ng : Nat) (g : List Arc) (H : Option Addr) (hc nh : Nat) (l : List Cl) (w : World) (hi : AllIn w G ng g H nh l) :
    Calls Tryz.prog 14 #[.slice G ng gc, .slice H nh hc] w fun e w' => ∃ gs : List (List Arc), e = .returned (.bool (decide (0 < gs.length))) ∧ Below w.heap.size w w' ∧ AllRes l g gs := by
  have DA := Lib.hid (all_res G gc ng g H hc nh l w hi)
  clear hi
  go_enter Tryz.func14, Tryz.ntmps14
  go_wp2_with (go_at_call 21; ((with_reducible refine DA.out.mono ?_); rintro e w2 ⟨B, d, out, rfl, _, _, _, hb2, hr2⟩; have HB2 := Lib.hid hb2; have HR2 := Lib.hid hr2; clear hb2 hr2))
  go_ret
  refine ⟨out.map Nw.l, ?_, HB2.out, HR2.out⟩
  rw [List.length_map]; simp
end Go.Proofs.YtpdfmfkoopdfgaaGreatDoor
end
section
namespace Go.Proofs.YtpdfmfkoopdfgaaGreatDoor
set_option maxRecDepth 100000
open Go.RowKit Aid Gr Hs LinP HeapP

/-! ### what an order of all eras leads to -/
inductive Chain : List Pt → List Arc → List Arc → Prop
  | done (g : List Arc) : Chain [] g g
  | era {ps : List Pt} {g m g' : List Arc} : ps ≠ [] → LinP.Ord (sysOf (ps.take (eraLen ps))) g m → Chain (ps.drop (eraLen ps)) m g' → Chain ps g g'
/-- What is so of a point of a history that is right. -/
structure PGood (p : Pt) : Prop where
  asked : turnsB p.k = false → p.must = true
  low : p.must = true → 0 ≤ p.to
  span : p.must = true → p.fr ≤ p.to
  kind : 11 ≤ p.k ∧ p.k ≤ 17
theorem still_do {l : List Arc} {o : Gr.Op} (h : turnsB o.k = false) : doG l o = l := by
  unfold turnsB at h
  have : ¬ (o.k = 11 ∨ o.k = 12 ∨ o.k = 14 ∨ o.k = 15) := of_decide_eq_false h
  exact doG_else (by omega) (by omega) (fun q => by omega) (fun q => by omega)
theorem good_sys {ps : List Pt} (h : ∀ p ∈ ps, PGood p) : (sysOf ps).Good :=
  ⟨fun i g _ ht => still_do (o := opOf (ptAt ps i)) ht, fun i hi ht => (h _ (ptAt_mem hi)).asked ht, fun i hi hm => (h _ (ptAt_mem hi)).low hm, fun i hi hm => (h _ (ptAt_mem hi)).span hm⟩
theorem AllRun.chain {ps0 : List Pt} {g0 : List Arc} (hG : ∀ p ∈ ps0, PGood p) {ps : List Pt} {gs : List (List Arc)} (h : AllRun ps0 g0 ps gs) (g' : List Arc) : Chain ps0 g0 g' ↔ ∃ g ∈ gs, Chain ps g g' := by
  induction h with
  | start => simp
  | @era ps gs out h1 hps hE ih =>
    rw [ih]
    have hgood : (sysOf (ps.take (eraLen ps))).Good := good_sys fun p hp => hG p (h1.sub.1 p (List.mem_of_mem_take hp))
    have hz : ∀ s ∈ startS (eraLen ps) gs, s.2 = zeros (sysOf (ps.take (eraLen ps))) := fun s hs => by
      obtain ⟨g, _, rfl⟩ := List.mem_map.1 hs
      show zerosD _ = List.replicate _ false
      unfold zerosD
      have : (sysOf (ps.take (eraLen ps))).n = eraLen ps := by
        show (ps.take (eraLen ps)).length = _
        rw [List.length_take, Nat.min_eq_left (eraLen_le ps)]
      rw [this]
    have sp := fun m => Era.spec hgood hE hz m
    constructor
    · rintro ⟨g, hg, hc⟩
      cases hc with
      | done => exact absurd rfl hps
      | @era _ _ m _ _ ho hr =>
        obtain ⟨d, hd⟩ := (sp m).2 ⟨(g, zerosD (eraLen ps)), List.mem_map.2 ⟨g, hg, rfl⟩, ho⟩
        exact ⟨m, List.mem_map.2 ⟨(m, d), hd, rfl⟩, hr⟩
    · rintro ⟨m, hm, hr⟩
      obtain ⟨⟨m', d⟩, hd, rfl⟩ := List.mem_map.1 hm
      obtain ⟨s, hs, ho⟩ := (sp m').1 ⟨d, hd⟩
      obtain ⟨g, hg, rfl⟩ := List.mem_map.1 hs
      exact ⟨g, hg, .era hps ho hr⟩
theorem AllRun.ends {ps0 : List Pt} {g0 : List Arc} (hG : ∀ p ∈ ps0, PGood p) {gs : List (List Arc)} (h : AllRun ps0 g0 [] gs) (g' : List Arc) : g' ∈ gs ↔ Chain ps0 g0 g' := by
  rw [h.chain hG g']
  constructor
  · exact fun hg => ⟨g', hg, .done g'⟩
  · rintro ⟨g, hg, hc⟩
    cases hc with
    | done => exact hg
    | era h _ _ => exact absurd rfl h

/-! ### few states -/
theorem Coded.congr {G : Type} {S : LinP.Sys G} {N : Nat} {c c' : Int → Nat} {Rd : Nat → Prop} {g : G} {w : List Nat} {s : St G} (h : Coded S N c Rd g w s) (hc : ∀ i, i < S.n → c' (S.fr i) = c (S.fr i)) : Coded S N c' Rd g w s :=
  ⟨h.mem, fun k i hk => (hc i (h.mem i (List.mem_of_getElem? hk)).1).trans (h.pos k i hk), fun i hi ht hw => (hc i hi).trans (h.abs i hi ht hw), h.low, h.at', h.len, h.tn, fun i hi ht hr => by rw [hc i hi]; exact h.rdl i hi ht hr, fun i hi ht => by rw [hc i hi]; exact h.qn i hi ht⟩
theorem Run.been {G : Type} {S : LinP.Sys G} {fr : List (St G)} : ∀ {ev : List Ev} {L : List Nat} {cur out : List (St G)}, Run S ev L cur out → ∀ {pre : List Ev}, Been S fr pre L cur → ∃ L' cur', Been S fr (pre ++ ev) L' cur' ∧ Grown S L' cur' out := by
  intro ev L cur out h
  induction h with
  | fin hg => intro pre hb; exact ⟨_, _, by simpa using hb, hg⟩
  | beg i _ ih =>
    intro pre hb
    obtain ⟨L', cur', h1, h2⟩ := ih (.beg i hb)
    exact ⟨L', cur', by simpa using h1, h2⟩
  | stop i hg _ ih =>
    intro pre hb
    obtain ⟨L', cur', h1, h2⟩ := ih (.stop i hb hg)
    exact ⟨L', cur', by simpa using h1, h2⟩
/-- What is so of all points of a history that is right, and short. -/
structure PsGood (ps : List Pt) (fs : List Int) : Prop where
  good : ∀ p ∈ ps, PGood p
  apart : ps.Pairwise fun p q => (turnsB p.k = true ∨ turnsB q.k = true) → p.fr ≠ q.fr
  eras : ps.Pairwise fun p q => p.era ≤ q.era
  same : ∀ p ∈ ps, ∀ q ∈ ps, p.fr = q.fr → p.era = q.era
  times : ∀ p ∈ ps, p.fr ∈ fs
  few : fs.length ≤ 9
theorem sub_length {l k : List Int} (hn : l.Nodup) (hs : ∀ x ∈ l, x ∈ k) : l.length ≤ k.length := by
  induction l generalizing k with
  | nil => exact Nat.zero_le _
  | cons a l ih =>
    rw [List.nodup_cons] at hn
    have ha := hs a (List.mem_cons_self ..)
    have := ih (k := k.erase a) hn.2 (fun x hx => (List.mem_erase_of_ne (fun e => hn.1 (by rw [← e]; exact hx))).2 (hs x (List.mem_cons_of_mem _ hx)))
    rw [List.length_erase_of_mem ha] at this
    have h0 : 0 < k.length := List.length_pos_of_mem ha
    simp only [List.length_cons]; omega
theorem PsGood.sub {ps qs : List Pt} {fs : List Int} (h : PsGood ps fs) (hs : qs.Sublist ps) : PsGood qs fs :=
  ⟨fun p hp => h.good p (hs.subset hp), h.apart.sublist hs, h.eras.sublist hs, fun p hp q hq => h.same p (hs.subset hp) q (hs.subset hq), fun p hp => h.times p (hs.subset hp), h.few⟩
theorem PsGood.uniq {ps : List Pt} {fs : List Int} (h : PsGood ps fs) : ∀ i j, i < (sysOf ps).n → j < (sysOf ps).n → (sysOf ps).turn i = true → (sysOf ps).fr i = (sysOf ps).fr j → i = j := by
  intro i j hi hj ht he
  have hi' : i < ps.length := hi
  have hj' : j < ps.length := hj
  have ei := ptAt_some hi'
  have ej := ptAt_some hj'
  rw [List.getElem?_eq_getElem hi'] at ei
  rw [List.getElem?_eq_getElem hj'] at ej
  have hp := List.pairwise_iff_getElem.1 h.apart
  rcases Nat.lt_trichotomy i j with q | q | q
  · exact absurd (by rw [Option.some.inj ei, Option.some.inj ej]; exact he) (hp i j hi' hj' q (.inl (by rw [Option.some.inj ei]; exact ht)))
  · exact q
  · exact absurd (by rw [Option.some.inj ei, Option.some.inj ej]; exact he.symm) (hp j i hj' hi' q (.inr (by rw [Option.some.inj ei]; exact ht)))
theorem PsGood.csys {ps : List Pt} {fs : List Int} (h : PsGood ps fs) : CSys (sysOf ps) 9 := by
  refine ⟨good_sys h.good, h.uniq, fun w hw hm => ?_⟩
  have hn : (w.map fun i => (sysOf ps).fr i).Nodup := by
    rw [List.nodup_iff_pairwise_ne, List.pairwise_map]
    refine List.Pairwise.imp_of_mem ?_ (List.nodup_iff_pairwise_ne.1 hw)
    intro a b ha hb hab e
    exact hab (h.uniq a b (hm a ha).1 (hm b hb).1 (hm a ha).2 e)
  have := sub_length hn (k := fs) (fun x hx => by
    obtain ⟨i, hi, rfl⟩ := List.mem_map.1 hx
    exact h.times _ (ptAt_mem (hm i hi).1))
  rw [List.length_map] at this
  have := h.few
  omega
theorem mem_ptAt {ps : List Pt} {p : Pt} (h : p ∈ ps) : ∃ i, i < ps.length ∧ ptAt ps i = p := by
  obtain ⟨i, hi, he⟩ := List.getElem_of_mem h
  refine ⟨i, hi, ?_⟩
  have := ptAt_some hi
  rw [List.getElem?_eq_getElem hi, he] at this
  exact (Option.some.inj this).symm
/-- An era's points, and those behind it, begin at times of their own. -/
theorem PsGood.split {ps : List Pt} {fs : List Int} (h : PsGood ps fs) (hps : ps ≠ []) : ∀ p ∈ ps.take (eraLen ps), ∀ q ∈ ps.drop (eraLen ps), p.fr ≠ q.fr := by
  intro p hp q hq e
  have he := h.same p (List.mem_of_mem_take hp) q (List.mem_of_mem_drop hq) e
  have hE : ∀ r ∈ ps.take (eraLen ps), r.era = (ps.headD ptD).era := fun r hr => by
    obtain ⟨i, hi, hir⟩ := List.getElem_of_mem hr
    rw [List.length_take] at hi
    rw [List.getElem_take] at hir
    subst hir
    unfold eraLen at hi
    split at hi
    · rename_i k hk
      obtain ⟨hk1, hk2, hk3⟩ := List.findIdx?_eq_some_iff_getElem.1 hk
      have := hk3 i (by omega)
      simpa using this
    · rename_i hk
      rw [List.findIdx?_eq_none_iff] at hk
      simpa using hk _ (List.getElem_mem (by omega))
  have hq' : q.era ≠ (ps.headD ptD).era := by
    intro hqe
    obtain ⟨j, hj, hjq⟩ := List.getElem_of_mem hq
    rw [List.length_drop] at hj
    rw [List.getElem_drop] at hjq
    have h0 : eraLen ps < ps.length := by omega
    have hne : (ps[eraLen ps]'h0).era ≠ (ps.headD ptD).era := by
      have : ∀ n (hn : n < ps.length), n = eraLen ps → (ps[n]'hn).era ≠ (ps.headD ptD).era := by
        intro n hn e
        unfold eraLen at e
        split at e
        · rename_i k hk
          obtain ⟨hk1, hk2, hk3⟩ := List.findIdx?_eq_some_iff_getElem.1 hk
          subst e
          simpa using hk2
        · omega
      exact this _ h0 rfl
    have hhead : (ps.headD ptD).era = (ps[0]'(by omega)).era := by
      cases ps with
      | nil => exact absurd rfl hps
      | cons a l => rfl
    have hpw := List.pairwise_iff_getElem.1 h.eras
    have p0 : 0 < eraLen ps := eraLen_pos hps
    have h1 := hpw 0 (eraLen ps) (by omega) h0 p0
    rcases Nat.eq_zero_or_pos j with rfl | q0
    · simp only [Nat.add_zero] at hjq
      rw [hjq] at hne
      exact hne hqe
    · have h2 := hpw (eraLen ps) (eraLen ps + j) h0 (by omega) (by omega)
      rw [hjq] at h2
      omega
  rw [hE p hp] at he
  exact hq' he.symm
theorem AllRun.tail {ps0 : List Pt} {g0 : List Arc} {ps : List Pt} {gs : List (List Arc)} (h : AllRun ps0 g0 ps gs) : ps.Sublist ps0 := by
  induction h with
  | start => exact List.Sublist.refl _
  | era _ _ _ ih => exact (List.drop_sublist _ _).trans ih
theorem start_zero {ps : List Pt} {gs : List (List Arc)} {s : St (List Arc)} (hs : s ∈ startS (eraLen ps) gs) : s.2 = zeros (sysOf (ps.take (eraLen ps))) := by
  obtain ⟨g, _, rfl⟩ := List.mem_map.1 hs
  show zerosD _ = List.replicate _ false
  unfold zerosD
  have : (sysOf (ps.take (eraLen ps))).n = eraLen ps := by
    show (ps.take (eraLen ps)).length = _
    rw [List.length_take, Nat.min_eq_left (eraLen_le ps)]
  rw [this]
/-- The graphs between eras are coded. -/
structure Base (fs : List Int) (ps : List Pt) (gs : List (List Arc)) (Bs : (Int → Nat) → List Arc → Prop) : Prop where
  stay : ∀ c c' g, Bs c g → (∀ f, (∀ p ∈ ps, p.fr ≠ f) → c' f = c f) → Bs c' g
  one : ∀ c c' g g', Bs c g → Bs c' g' → (∀ f ∈ fs, c f = c' f) → g = g'
  all : ∀ g ∈ gs, ∃ c, (∀ f, c f ≤ 9) ∧ Bs c g
theorem Base.sys {fs : List Int} {ps : List Pt} {gs : List (List Arc)} {Bs : (Int → Nat) → List Arc → Prop} (h : Base fs ps gs Bs) : ∀ c c' g, Bs c g → (∀ f, (∀ i, i < (sysOf (ps.take (eraLen ps))).n → (sysOf (ps.take (eraLen ps))).fr i ≠ f) → c' f = c f) → Bs c' g := fun c c' g hb hc => h.stay c c' g hb fun f hf => hc f fun i hi => hf _ (List.mem_of_mem_take (ptAt_mem hi))
theorem Base.start {fs : List Int} {ps : List Pt} {gs : List (List Arc)} {Bs : (Int → Nat) → List Arc → Prop} (h : Base fs ps gs Bs) : ∀ s ∈ startS (eraLen ps) gs, s.2 = zeros (sysOf (ps.take (eraLen ps))) ∧ ∃ c, (∀ f, c f ≤ 9) ∧ Bs c s.1 := fun s hs => by
  refine ⟨start_zero hs, ?_⟩
  obtain ⟨g, hg, rfl⟩ := List.mem_map.1 hs
  exact h.all g hg
theorem AllRun.base {ps0 : List Pt} {g0 : List Arc} {fs : List Int} (hP : PsGood ps0 fs) {ps : List Pt} {gs : List (List Arc)} (h : AllRun ps0 g0 ps gs) : ∃ Bs, Base fs ps gs Bs := by
  induction h with
  | start => exact ⟨fun _ g => g = g0, fun _ _ _ h _ => h, fun _ _ _ _ h1 h2 _ => h1.trans h2.symm, fun g hg => ⟨fun _ => 0, fun _ => Nat.zero_le _, List.mem_singleton.1 hg⟩⟩
  | @era ps gs out h1 hps hE ih =>
    obtain ⟨Bs, hB⟩ := ih
    have hsub : PsGood ps fs := hP.sub h1.tail
    have hS := (hsub.sub (List.take_sublist (eraLen ps) ps)).csys
    refine ⟨fun c g => ∃ Rd g1 w s, Bs c g1 ∧ Coded (sysOf (ps.take (eraLen ps))) 9 c Rd g1 w s ∧ g = s.1, fun c c' g => ?_, fun c c' g g' => ?_, fun g hg => ?_⟩
    · rintro ⟨Rd, g1, w, s, h2, h3, rfl⟩ hc
      refine ⟨Rd, g1, w, s, hB.stay c c' g1 h2 (fun f hf => hc f fun p hp => hf p (List.mem_of_mem_drop hp)), h3.congr (fun i hi => hc _ fun q hq e => ?_), rfl⟩
      exact hsub.split hps _ (ptAt_mem hi) q hq e.symm
    · rintro ⟨Rd, g1, w, s, h2, h3, rfl⟩ ⟨Rd', g1', w', s', h2', h3', rfl⟩ hc
      obtain rfl := hB.one _ _ _ _ h2 h2' hc
      have hfr : ∀ i, i < (sysOf (ps.take (eraLen ps))).n → c ((sysOf (ps.take (eraLen ps))).fr i) = c' ((sysOf (ps.take (eraLen ps))).fr i) := fun i hi => hc _ (hsub.times _ (List.mem_of_mem_take (ptAt_mem hi)))
      obtain rfl := h3.word h3' hfr hS.uniq
      rw [h3.at', h3'.at']
    · obtain ⟨s, hs, rfl⟩ := List.mem_map.1 hg
      obtain ⟨ev, hperm, hpair, hrun⟩ := hE
      obtain ⟨L, cur, hb, hgr⟩ := Run.been hrun (.start)
      rw [List.nil_append] at hb
      have hp : PreCut (sysOf (ps.take (eraLen ps))) ev [] := ⟨by simpa using hperm, hpair, fun a _ b hb => by cases hb⟩
      obtain ⟨t, ht, hpth⟩ := hgr.reach s hs
      obtain ⟨pre', hcs⟩ := hb.codes hS hB.sys hB.start hp
      obtain ⟨c, g1, w, q1, q2, q3⟩ := hcs.path hS hB.sys (fun s hs => by rw [start_zero hs]; exact List.length_replicate ..) hb hp ht hpth
      exact ⟨c, q1, _, g1, w, s, q2, q3, rfl⟩
theorem PsGood.bound {ps0 : List Pt} {g0 : List Arc} {fs : List Int} (hP : PsGood ps0 fs) : ∀ ps gs, AllRun ps0 g0 ps gs → ps ≠ [] → EBound (ps.take (eraLen ps)) (startS (eraLen ps) gs) := by
  intro ps gs h hps pre rest L cur hp hb
  obtain ⟨Bs, hB⟩ := h.base hP
  have hsub : PsGood ps fs := hP.sub h.tail
  have hS := (hsub.sub (List.take_sublist (eraLen ps) ps)).csys
  refine ⟨fun s => ∃ c g w, (∀ f, c f ≤ 9) ∧ Bs c g ∧ Coded (sysOf (ps.take (eraLen ps))) 9 c (fun i => (i, false) ∈ pre) g w s, fun l hl hR => ?_, fun t ht s hs => ?_⟩
  · have h1 := few_codes hS.uniq (fun c c' g g' => hB.one c c' g g') (fun i hi => hsub.times _ (List.mem_of_mem_take (ptAt_mem hi))) l hl hR
    have h2 : (9 + 1) ^ fs.length ≤ (9 + 1) ^ 9 := Nat.pow_le_pow_right (by omega) hP.few
    have h3 : (9 + 1) ^ 9 ≤ 1000000000000 := by decide
    exact Nat.le_trans h1 (Nat.le_trans h2 h3)
  · obtain ⟨pre', hcs⟩ := hb.codes hS hB.sys hB.start hp
    exact hcs.path hS hB.sys (fun s hs => by rw [start_zero hs]; exact List.length_replicate ..) hb hp ht hs
end Go.Proofs.YtpdfmfkoopdfgaaGreatDoor
end
