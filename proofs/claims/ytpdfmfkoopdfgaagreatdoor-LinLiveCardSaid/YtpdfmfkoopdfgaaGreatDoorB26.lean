/- LAdd. -/
import Derived.Test.YtpdfmfkoopdfgaaGreatDoorB21
set_option linter.unusedVariables false
set_option linter.unusedSimpArgs false
namespace Go.Proofs.YtpdfmfkoopdfgaaGreatDoor
set_option maxRecDepth 100000
open Go.RowKit Aid Gr Hs LinP

/-- What is asked of a state, and of those that are kept, ahead of a call of add. -/
structure AddPre (E : Env) (K : Nat) (R : St (List Arc) → Prop) (n : Nw) (out : List Nw) (v : Value) (w : World) : Prop where
  gi : GI E w v out
  nw : NwOk w n
  gs : GS (sysOf E.ps) K n.st
  nodup : (sts out).Nodup
  old : ∀ s ∈ sts out, R s
  new : ∀ s, LPath (sysOf E.ps) E.L n.st s → R s
abbrev AddCall (E : Env) (K : Nat) (n : Nw) (out : List Nw) (v : Value) (w : World) : Prop :=
  Calls Tryz.prog 92 #[n.val, .pointer (some ⟨E.bp, 0, none⟩), .pointer (some ⟨E.bl, 0, none⟩), .pointer (some ⟨E.bs, 0, none⟩), .pointer (some ⟨E.bo, 0, none⟩), .pointer (some ⟨E.ba, 0, none⟩)] w fun e w' => e = .returned (.tuple #[]) ∧ AddOut E K n out v w w'
set_option maxHeartbeats 16000000 in
theorem add_step (E : Env) (hE : E.Ok) (hz : 0 < E.base) (K N : Nat) (hK : K ≤ 900) (hN : N ≤ 1000000000000) (R : St (List Arc) → Prop) (hR : ∀ l : List (St (List Arc)), l.Nodup → (∀ s ∈ l, R s) → l.length ≤ N) (m : Nat)
    (ih : ∀ (n : Nw) (out : List Nw) (v : Value) (w : World), AddPre E K R n out v w → und (sysOf E.ps) n.d + 1 ≤ m → AddCall E K n out v w)
    (n : Nw) (out : List Nw) (v : Value) (w : World) (hp : AddPre E K R n out v w) (hm : und (sysOf E.ps) n.d ≤ m) : AddCall E K n out v w := by
  obtain ⟨A, c, l, B, k, d⟩ := n
  have HE := Lib.hid hE
  have HZ := Lib.hid hz
  have HRR := Lib.hid hR
  have IH := Lib.hid ih
  have HP := Lib.hid hp
  have HM := Lib.hid hm
  have HLN : Hid (∀ i ∈ E.L, i < (sysOf E.ps).n) := Lib.hid hE.live
  have HDL : Hid (d.length = E.ps.length) := Lib.hid hp.gs.len
  have HLL : Hid (l.length ≤ 900) := Lib.hid (by have := hp.gs.few; have h2 : l.length + und (sysOf E.ps) d ≤ K := this; omega)
  have lb : l.length ≤ 900 := HLL.out
  have pb : E.ps.length ≤ 1000000 := hE.small
  have vb : E.L.length ≤ 1000000 := hE.few
  clear hE hz hR ih hp hm
  unfold AddCall
  show Calls Tryz.prog 92 #[.agg #[.slice A l.length c, .slice B d.length k], _, _, _, _, _] w _
  -- the box of n
  have X1 : Hid (Box2 (w.alloc (.cells #[.slice A l.length c, .slice B d.length k] 66)) w.heap.size (.slice A l.length c) (.slice B d.length k) ∧ Below w.heap.size w (w.alloc (.cells #[.slice A l.length c, .slice B d.length k] 66))) := Lib.hid ⟨Box2.new _ _ _ _, (Below.refl _ _).alloc (Nat.le_refl _) _⟩
  have G1 := Lib.hid (HP.out.gi.later X1.out.2)
  have DR : Hid (Calls Tryz.prog 93 #[.agg #[.slice A l.length c, .slice B d.length k], .slice E.P E.ps.length E.cp, .slice E.V E.L.length E.cv] (w.alloc (.cells #[.slice A l.length c, .slice B d.length k] 66)) fun e w' => ∃ B' k', e = .returned (.agg #[.slice A l.length c, .slice B' d.length k']) ∧ Sl w' B' ((rd (sysOf E.ps) E.L l d).map Value.bool) ∧ Below (w.alloc (.cells #[.slice A l.length c, .slice B d.length k] 66)).heap.size (w.alloc (.cells #[.slice A l.length c, .slice B d.length k] 66)) w' ∧ (∀ a, B' = some a → E.base ≤ a.block)) := Lib.hid (by
    have hn := HP.out.nw.below X1.out.2 (Nat.le_refl _)
    refine (read_any A c _ l B k _ d E.P E.cp _ E.ps E.V E.cv _ E.L _ rfl rfl rfl rfl hn.1 HP.out.gs.rises (by omega) hn.2 HDL.out G1.out.pts G1.out.lv HE.out.live HE.out.fine pb vb).mono ?_
    rintro e w' ⟨B', k', h1, h2, h3, h4⟩
    exact ⟨B', k', h1, h2, h3, fun a ha => Nat.le_trans G1.out.bw (h4 a ha)⟩)
  obtain ⟨a0, a1, a2, a3⟩ := X1.out.1
  have b0 := cell_of_one G1.out.hp
  have b1 := cell_of_one G1.out.hl
  go_enter Tryz.func92, Tryz.ntmps92
  go_upto_region 2 with (go_at_call 93; ((with_reducible refine DR.out.mono ?_); rintro e w1 ⟨B', k', rfl, hs, hb, hnw⟩; have HS1 := Lib.hid hs; have HB1 := Lib.hid hb; have HNW := Lib.hid hnw; clear hnw; have bx := X1.out.1.below hb X1.out.1.lt; obtain ⟨c0, c1, c2, c3⟩ := bx; clear hs hb a0 a1 a2 a3 b0 b1))
  clear c0 c1 c2 c3
  obtain ⟨dd, hdd⟩ : ∃ dd, dd = rd (sysOf E.ps) E.L l d := ⟨_, rfl⟩
  have HDD := Lib.hid hdd
  have HDDL : Hid (dd.length = d.length) := Lib.hid (by rw [hdd, rd_len])
  rw [← hdd] at HS1
  clear hdd
  have F2 : Hid (Box2 ((w1.setCell ⟨w.heap.size, 0, none⟩ (.slice A l.length c)).setCell ⟨w.heap.size, 1, none⟩ (.slice B' d.length k')) w.heap.size (.slice A l.length c) (.slice B' d.length k') ∧ Below w.heap.size w ((w1.setCell ⟨w.heap.size, 0, none⟩ (.slice A l.length c)).setCell ⟨w.heap.size, 1, none⟩ (.slice B' d.length k')) ∧ Sl ((w1.setCell ⟨w.heap.size, 0, none⟩ (.slice A l.length c)).setCell ⟨w.heap.size, 1, none⟩ (.slice B' d.length k')) B' (dd.map Value.bool)) := Lib.hid (by
    have bx := X1.out.1.below HB1.out X1.out.1.lt
    have h0 : Below w.heap.size w w1 := X1.out.2.trans (HB1.out.mono X1.out.2.size)
    refine ⟨bx.set2 _ _, (h0.setCell (p := ⟨w.heap.size, 0, none⟩) (Nat.le_refl _) _).setCell (p := ⟨w.heap.size, 1, none⟩) (Nat.le_refl _) _, fun hp => ?_⟩
    obtain ⟨p, off, hA, hc⟩ := HS1.out hp
    refine ⟨p, off, hA, fun j x hj => ?_⟩
    obtain ⟨kk, rfl⟩ : ∃ kk, x = .bool kk := by
      obtain ⟨kk, _, rfl⟩ := List.mem_map.1 (List.mem_of_getElem? hj)
      exact ⟨kk, rfl⟩
    have hne : p ≠ w.heap.size := fun e => by
      subst e
      have := hc j _ hj
      have hw := (HB1.out.block w.heap.size (by rw [World.size_alloc]; omega)).trans (heap_alloc_new w _)
      rw [Lib.cell_of_heap hw] at this
      rcases h : off + j with _ | _ | q
      · rw [h] at this; simp at this
      · rw [h] at this; simp at this
      · rw [h] at this; simp at this
    rw [cell_set_ne _ _ _ _ (by simpa using hne), cell_set_ne _ _ _ _ (by simpa using hne)]
    exact hc j _ hj)
  generalize (w1.setCell ⟨w.heap.size, 0, none⟩ (.slice A l.length c)).setCell ⟨w.heap.size, 1, none⟩ (.slice B' d.length k') = w2 at F2 ⊢
  clear HS1 HB1 DR X1 G1
  have G2 := Lib.hid (HP.out.gi.later F2.out.2.1)
  have N2 : Hid (NwOk w2 ⟨A, c, l, B', k', dd⟩) := Lib.hid ⟨(HP.out.nw.below F2.out.2.1 (Nat.le_refl _)).1, F2.out.2.2⟩
  have NLE : Hid ((nameOf l dd).length ≤ 100000000) := Lib.hid (name_le HP.out.nw.1.2.1 (by omega) (by rw [HDDL.out, HDL.out]; exact pb))
  obtain ⟨nm, hnm⟩ : ∃ nm : ByteArray, nm = ⟨(nameOf l dd).toArray⟩ := ⟨_, rfl⟩
  have HNM := Lib.hid hnm
  have HNZ : Hid (nm.size ≤ maxLen) := Lib.hid (by
    have := NLE.out
    rw [hnm]; show (nameOf l dd).toArray.size ≤ maxLen
    rw [List.size_toArray]; unfold maxLen; omega)
  have DN : Hid (∀ W : World, Below w2.heap.size w2 W → Calls Tryz.prog 94 #[.agg #[.slice A l.length c, .slice B' d.length k']] W fun e w' => e = .returned (.string nm) ∧ Below W.heap.size W w') := Lib.hid fun W hW => by
    have hn := N2.out.below hW (Nat.le_refl _)
    rw [HNM.out]
    exact name_any A c _ l B' k' _ dd W (G2.out.tab.below hW (Nat.le_refl _)) rfl HDDL.out.symm hn.1 (by omega) hn.2 (by rw [HDDL.out, HDL.out]; exact pb)
  clear hnm
  obtain ⟨hit, hhit⟩ : ∃ hit, hit = hitB out nm.data.toList := ⟨_, rfl⟩
  have HHIT := Lib.hid hhit
  have LK : Hid (∀ W : World, Below w2.heap.size w2 W → (Instr.lookup 136 (.map (some E.bm)) (.string nm) true).run Tryz.prog W = .ok (.tuple #[.agg #[], .bool hit]) W ∧ (∀ o, (Instr.lookup 136 (.map (some E.bm)) (.string nm) true).run Tryz.prog (W.alloc o) = .ok (.tuple #[.agg #[], .bool hit]) (W.alloc o))) := Lib.hid fun W hW => by
    rw [HHIT.out]
    exact ⟨look_run (G2.out.later hW) nm HNZ.out, fun o => look_run (G2.out.later (hW.alloc hW.size o)) nm HNZ.out⟩
  clear hhit
  have CH : Hid (∀ W W' : World, Below w2.heap.size w2 W → Below W.heap.size W W' → Below w2.heap.size w2 W') := Lib.hid fun W W' h h2 => h.trans (h2.mono h.size)
  go_cut [8] from 14 to 36 (fun x wx => x = .bool hit ∧ Below w2.heap.size w2 wx)
  case first => as_aux_lemma =>
    have C0 : Hid (Below w2.heap.size w2 w2.drew) := Lib.hid (Below.refl _ _).drew
    have C1 : Hid (∀ o, Below w2.heap.size w2 (w2.alloc o).drew) := Lib.hid fun o => ((Below.refl _ _).alloc (Nat.le_refl _) o).drew
    go_wp2
    have LW : Hid (∀ W : World, Below w2.heap.size w2 W → W.cell? ⟨E.bs, 0, none⟩ = some (.map (some E.bm)) ∧ W.cell? ⟨w.heap.size, 0, none⟩ = some (.slice A l.length c) ∧ W.cell? ⟨w.heap.size, 1, none⟩ = some (.slice B' d.length k') ∧ Below w2.heap.size w2 W) := Lib.hid fun W hW => ⟨cellL (cell_of_one G2.out.hs) hW, cellL (F2.out.1.c0) hW, cellL (F2.out.1.c1) hW, hW⟩
    have SS := Lib.hid (LW.out w2.drew (Below.refl _ _).drew)
    have SD : Hid (∀ o : Obj, (w2.alloc o).drew.cell? ⟨E.bs, 0, none⟩ = some (.map (some E.bm)) ∧ (w2.alloc o).drew.cell? ⟨w.heap.size, 0, none⟩ = some (.slice A l.length c) ∧ (w2.alloc o).drew.cell? ⟨w.heap.size, 1, none⟩ = some (.slice B' d.length k') ∧ Below w2.heap.size w2 (w2.alloc o).drew) := Lib.hid fun o => LW.out _ ((Below.refl _ _).alloc (Nat.le_refl _) o).drew
    have KK : Hid (∀ (W W' : World), (W.cell? ⟨E.bs, 0, none⟩ = some (.map (some E.bm)) ∧ W.cell? ⟨w.heap.size, 0, none⟩ = some (.slice A l.length c) ∧ W.cell? ⟨w.heap.size, 1, none⟩ = some (.slice B' d.length k') ∧ Below w2.heap.size w2 W) → Below W.heap.size W W' → W'.cell? ⟨E.bs, 0, none⟩ = some (.map (some E.bm)) ∧ W'.cell? ⟨w.heap.size, 0, none⟩ = some (.slice A l.length c) ∧ W'.cell? ⟨w.heap.size, 1, none⟩ = some (.slice B' d.length k') ∧ Below w2.heap.size w2 W') := Lib.hid fun W W' h hW => LW.out W' (h.2.2.2.trans (hW.mono h.2.2.2.size))
    have KA : Hid (∀ (W : World) (o : Obj), (W.cell? ⟨E.bs, 0, none⟩ = some (.map (some E.bm)) ∧ W.cell? ⟨w.heap.size, 0, none⟩ = some (.slice A l.length c) ∧ W.cell? ⟨w.heap.size, 1, none⟩ = some (.slice B' d.length k') ∧ Below w2.heap.size w2 W) → (W.alloc o).cell? ⟨E.bs, 0, none⟩ = some (.map (some E.bm)) ∧ (W.alloc o).cell? ⟨w.heap.size, 0, none⟩ = some (.slice A l.length c) ∧ (W.alloc o).cell? ⟨w.heap.size, 1, none⟩ = some (.slice B' d.length k') ∧ Below w2.heap.size w2 (W.alloc o)) := Lib.hid fun W o h => LW.out _ (h.2.2.2.alloc h.2.2.2.size o)
    have KS : Hid (∀ (W : World) (j : Nat) (v : Value), (W.cell? ⟨E.bs, 0, none⟩ = some (.map (some E.bm)) ∧ W.cell? ⟨w.heap.size, 0, none⟩ = some (.slice A l.length c) ∧ W.cell? ⟨w.heap.size, 1, none⟩ = some (.slice B' d.length k') ∧ Below w2.heap.size w2 W) → (W.setCell ⟨w2.heap.size, j, none⟩ v).cell? ⟨E.bs, 0, none⟩ = some (.map (some E.bm)) ∧ (W.setCell ⟨w2.heap.size, j, none⟩ v).cell? ⟨w.heap.size, 0, none⟩ = some (.slice A l.length c) ∧ (W.setCell ⟨w2.heap.size, j, none⟩ v).cell? ⟨w.heap.size, 1, none⟩ = some (.slice B' d.length k') ∧ Below w2.heap.size w2 (W.setCell ⟨w2.heap.size, j, none⟩ v)) := Lib.hid fun W j v h => LW.out _ (h.2.2.2.setCell (p := ⟨w2.heap.size, j, none⟩) (Nat.le_refl _) v)
    have BW : Hid (∀ W : World, (W.cell? ⟨E.bs, 0, none⟩ = some (.map (some E.bm)) ∧ W.cell? ⟨w.heap.size, 0, none⟩ = some (.slice A l.length c) ∧ W.cell? ⟨w.heap.size, 1, none⟩ = some (.slice B' d.length k') ∧ Below w2.heap.size w2 W) → Below w2.heap.size w2 W) := Lib.hid fun W h => h.2.2.2
    clear LW
    go_region_held3 (fun w' => w'.cell? ⟨E.bs, 0, none⟩ = some (.map (some E.bm)) ∧ w'.cell? ⟨w.heap.size, 0, none⟩ = some (.slice A l.length c) ∧ w'.cell? ⟨w.heap.size, 1, none⟩ = some (.slice B' d.length k') ∧ Below w2.heap.size w2 w')
      (first | (with_reducible exact SS.out) | (with_reducible exact SD.out _) | (with_reducible assumption) | ((with_reducible refine KA.out _ _ ?_); first | (with_reducible exact SS.out) | (with_reducible exact SD.out _) | (with_reducible assumption) | ((with_reducible refine KA.out _ _ ?_); first | (with_reducible exact SS.out) | (with_reducible exact SD.out _) | (with_reducible assumption)) | ((with_reducible refine KK.out ?_ _ ?_ ?_); rotate_left 2; (with_reducible assumption); first | (with_reducible exact SS.out) | (with_reducible exact SD.out _) | (with_reducible assumption) | ((with_reducible refine KA.out _ _ ?_); first | (with_reducible exact SS.out) | (with_reducible exact SD.out _) | (with_reducible assumption)))) | ((with_reducible refine KK.out ?_ _ ?_ ?_); rotate_left 2; (with_reducible assumption); first | (with_reducible exact SS.out) | (with_reducible exact SD.out _) | (with_reducible assumption) | ((with_reducible refine KA.out _ _ ?_); first | (with_reducible exact SS.out) | (with_reducible exact SD.out _) | (with_reducible assumption)) | ((with_reducible refine KK.out ?_ _ ?_ ?_); rotate_left 2; (with_reducible assumption); first | (with_reducible exact SS.out) | (with_reducible exact SD.out _) | (with_reducible assumption) | ((with_reducible refine KA.out _ _ ?_); first | (with_reducible exact SS.out) | (with_reducible exact SD.out _) | (with_reducible assumption)))) | ((with_reducible refine KS.out _ _ _ ?_); (repeat (with_reducible refine KS.out _ _ _ ?_)); first | (with_reducible exact SS.out) | (with_reducible exact SD.out _) | (with_reducible assumption) | ((with_reducible refine KA.out _ _ ?_); first | (with_reducible exact SS.out) | (with_reducible exact SD.out _) | (with_reducible assumption)) | ((with_reducible refine KK.out ?_ _ ?_ ?_); rotate_left 2; (with_reducible assumption); first | (with_reducible exact SS.out) | (with_reducible exact SD.out _) | (with_reducible assumption) | ((with_reducible refine KA.out _ _ ?_); first | (with_reducible exact SS.out) | (with_reducible exact SD.out _) | (with_reducible assumption)))))
      (first | (go_at_call 94; ((with_reducible refine (DN.out _ ?_).mono ?_); (focus ((with_reducible refine BW.out _ ?_); first | (with_reducible exact SS.out) | (with_reducible exact SD.out _) | (with_reducible assumption) | ((with_reducible refine KA.out _ _ ?_); first | (with_reducible exact SS.out) | (with_reducible exact SD.out _) | (with_reducible assumption)))); rintro e wa ⟨rfl, hb1⟩; have lk := LK.out wa (by first | exact CH.out _ _ C0.out hb1 | exact CH.out _ _ (C1.out _) hb1); obtain ⟨lk0, lk1⟩ := lk)))
    all_goals go_wp2
    all_goals go_meet
    all_goals first | exact ⟨rfl, (CH.out _ _ C0.out hb1).alloc (CH.out _ _ C0.out hb1).size _⟩ | exact ⟨rfl, CH.out _ _ (C1.out _) hb1⟩
  case rest => as_aux_lemma =>
  obtain ⟨rfl, hb3⟩ := hcut
  have HB3 := Lib.hid hb3
  obtain ⟨w3, hw3⟩ : ∃ w3, w3 = wc := ⟨_, rfl⟩
  subst hw3
  have B3 : Hid (Below w.heap.size w w3) := Lib.hid (F2.out.2.1.trans (HB3.out.mono F2.out.2.1.size))
  have X3 : Hid (Box2 w3 w.heap.size (.slice A l.length c) (.slice B' d.length k')) := Lib.hid (F2.out.1.below HB3.out F2.out.1.lt)
  have N3 : Hid (NwOk w3 ⟨A, c, l, B', k', dd⟩) := Lib.hid (N2.out.below HB3.out (Nat.le_refl _))
  have G3 := Lib.hid (HP.out.gi.later B3.out)
  have DN3 : Hid (∀ W : World, Below w3.heap.size w3 W → Calls Tryz.prog 94 #[.agg #[.slice A l.length c, .slice B' d.length k']] W fun e w' => e = .returned (.string nm) ∧ Below W.heap.size W w') := Lib.hid fun W hW => DN.out W (HB3.out.trans (hW.mono HB3.out.size))
  clear hb3 HB3 LK CH DN N2 G2 F2
  cases hit
  case true => as_aux_lemma =>
    go_wp2
    have hin : (l, dd) ∈ sts out := by
      have h1 := HHIT.out
      rw [HNM.out] at h1
      exact (hit_iff (ok_pos N3.out) (fun x hx => ok_pos (G3.out.ok x hx))).1 h1.symm
    refine bodyPost_ret (v := .tuple #[]) (by simp [results, Tryz.results92, go_sem]) rfl ?_
    exact ⟨rfl, v, out, G3.out, AK.ofBelow B3.out, Nx.refl _ _, ⟨[], by simp⟩, AddPost.old HP.out.nodup (by show (l, rd (sysOf E.ps) E.L l d) ∈ _; rw [← HDD.out]; exact hin)⟩
  case false => as_aux_lemma =>
  have HNI : Hid ((l, dd) ∉ sts out) := Lib.hid fun q => by
    have h1 := (hit_iff (ok_pos N3.out) (fun x hx => ok_pos (G3.out.ok x hx))).2 q
    have h2 := HHIT.out
    rw [HNM.out] at h2
    exact absurd (h2.trans h1) (by simp)
  have HRl : Hid (R (l, dd)) := Lib.hid (by
    have h1 := HP.out.new _ LPath.start
    rw [HDD.out]; exact h1)
  have HON : Hid (out.length + 1 ≤ N) := Lib.hid (by
    have h1 := HRR.out (sts out ++ [(l, dd)]) (by
      rw [List.nodup_append]
      exact ⟨HP.out.nodup, by simp, fun a ha b hb e => by rw [List.mem_singleton] at hb; subst e hb; exact HNI.out ha⟩) (fun s hs => by
      rcases List.mem_append.1 hs with q | q
      · exact HP.out.old s q
      · rw [List.mem_singleton] at q; rw [q]; exact HRl.out)
    simpa [sts] using h1)
  have PUT : Hid (∀ W : World, Below w3.heap.size w3 W → ∃ w4, (Instr.mapUpdate 136 (.map (some E.bm)) (.string nm) (.agg #[])).run Tryz.prog W = .ok () w4 ∧ CellsKept W w4 ∧ GIx E w4 v out (keysOfOut out ++ [.string (nameOf l dd)]) ∧ Box2 w4 w.heap.size (.slice A l.length c) (.slice B' d.length k') ∧ NwOk w4 ⟨A, c, l, B', k', dd⟩ ∧ AK E.bo E.bm v w w4) := Lib.hid fun W hW => by
    have hg := G3.out.later hW
    obtain ⟨w4, h1, h2, h3⟩ := put_run hg nm HNZ.out (by have := HON.out; unfold keysOfOut maxLen; rw [List.length_map]; omega)
    have hk := kept_map hg.hm h3
    have hbm : w.heap.size ≠ E.bm := fun e => by have := HP.out.gi.hm.lt; omega
    refine ⟨w4, h1, hk, ?_, ?_, (N3.out.below hW (Nat.le_refl _)).keep hk, (AK.ofBelow (B3.out.trans (hW.mono B3.out.size))).trans (Nx.refl _ _) (AK.ofMap h3)⟩
    · have h4 := GIx.put HE.out hg h2 h3 HZ.out (fun x hx => (hg.ok x hx).keep hk)
      rw [HNM.out] at h4
      exact h4
    · have hbx := X3.out.below hW X3.out.lt
      exact hbx.keep (h3.block _ hbx.lt (fun e => hbm (Option.some.inj e)))
  go_upto_region 4 with fail
  go_cut [8] from 14 to 36 (fun x wx => x = .bool false ∧ GIx E wx v out (keysOfOut out ++ [.string (nameOf l dd)]) ∧ Box2 wx w.heap.size (.slice A l.length c) (.slice B' d.length k') ∧ NwOk wx ⟨A, c, l, B', k', dd⟩ ∧ AK E.bo E.bm v w wx)
  case first => as_aux_lemma =>
    have CH : Hid (∀ W W' : World, Below w3.heap.size w3 W → Below W.heap.size W W' → Below w3.heap.size w3 W') := Lib.hid fun W W' h h2 => h.trans (h2.mono h.size)
    have C0 : Hid (Below w3.heap.size w3 w3.drew) := Lib.hid (Below.refl _ _).drew
    have KC : Hid (∀ W W' : World, (W.cell? ⟨E.bs, 0, none⟩ = some (.map (some E.bm)) ∧ W.cell? ⟨w.heap.size, 0, none⟩ = some (.slice A l.length c) ∧ W.cell? ⟨w.heap.size, 1, none⟩ = some (.slice B' d.length k')) → CellsKept W W' → W'.cell? ⟨E.bs, 0, none⟩ = some (.map (some E.bm)) ∧ W'.cell? ⟨w.heap.size, 0, none⟩ = some (.slice A l.length c) ∧ W'.cell? ⟨w.heap.size, 1, none⟩ = some (.slice B' d.length k')) := Lib.hid fun W W' h hk => ⟨hk _ _ h.1, hk _ _ h.2.1, hk _ _ h.2.2⟩
    go_wp2
    have SS : Hid (w3.drew.cell? ⟨E.bs, 0, none⟩ = some (.map (some E.bm)) ∧ w3.drew.cell? ⟨w.heap.size, 0, none⟩ = some (.slice A l.length c) ∧ w3.drew.cell? ⟨w.heap.size, 1, none⟩ = some (.slice B' d.length k')) := Lib.hid ⟨cell_of_one G3.out.hs, X3.out.c0, X3.out.c1⟩
    have KK : Hid (∀ (W W' : World), (W.cell? ⟨E.bs, 0, none⟩ = some (.map (some E.bm)) ∧ W.cell? ⟨w.heap.size, 0, none⟩ = some (.slice A l.length c) ∧ W.cell? ⟨w.heap.size, 1, none⟩ = some (.slice B' d.length k')) → Below W.heap.size W W' → W'.cell? ⟨E.bs, 0, none⟩ = some (.map (some E.bm)) ∧ W'.cell? ⟨w.heap.size, 0, none⟩ = some (.slice A l.length c) ∧ W'.cell? ⟨w.heap.size, 1, none⟩ = some (.slice B' d.length k')) := Lib.hid fun W W' h hW => ⟨cellL h.1 hW, cellL h.2.1 hW, cellL h.2.2 hW⟩
    go_region_held3 (fun w' => w'.cell? ⟨E.bs, 0, none⟩ = some (.map (some E.bm)) ∧ w'.cell? ⟨w.heap.size, 0, none⟩ = some (.slice A l.length c) ∧ w'.cell? ⟨w.heap.size, 1, none⟩ = some (.slice B' d.length k'))
      (first | (with_reducible exact SS.out) | (with_reducible assumption) | ((with_reducible refine KK.out ?_ _ ?_ ?_); rotate_left 2; (with_reducible assumption); first | (with_reducible exact SS.out) | (with_reducible assumption)))
      (first | (go_at_call 94; ((with_reducible refine (DN3.out _ ?_).mono ?_); (focus exact C0.out); rintro e wa ⟨rfl, hb1⟩; obtain ⟨w4, hrun, hk4, hfin⟩ := PUT.out wa (CH.out _ _ C0.out hb1); have s4 := KC.out _ _ (KK.out _ _ SS.out hb1) hk4; have HFIN := Lib.hid hfin; clear hfin)))
    all_goals go_wp2
    all_goals go_meet
    all_goals exact ⟨rfl, HFIN.out⟩
  case rest => as_aux_lemma =>
  obtain ⟨_, hg4, hx4, hn4, ha4⟩ := hcut
  have G4 := Lib.hid hg4
  have X4 := Lib.hid hx4
  have N4 := Lib.hid hn4
  have A4 := Lib.hid ha4
  clear hg4 hx4 hn4 ha4 G3 X3 N3 B3 DN3 PUT
  obtain ⟨w4, hw4⟩ : ∃ w4, w4 = wc := ⟨_, rfl⟩
  subst hw4
  obtain ⟨vA, vc, hv⟩ := own_slice G4.out.own
  have HV0 := Lib.hid hv
  rw [hv] at G4
  clear hv
  obtain ⟨i0, hi0, hz0, hz1, hz2⟩ := info_parts info66
  have BA : Hid (Below w4.heap.size w4 (w4.alloc (.cells #[.slice A l.length c, .slice B' d.length k'] 66))) := Lib.hid ((Below.refl _ _).alloc (Nat.le_refl _) _)
  have G5 := Lib.hid (G4.out.later BA.out)
  have NZ : Hid (∀ j u, ([.slice A l.length c, .slice B' d.length k'] : List Value)[j]? = some u → (w4.alloc (.cells #[.slice A l.length c, .slice B' d.length k'] 66)).cell? ⟨w4.heap.size, 0 + j, none⟩ = some u) := Lib.hid fun j u hj => by
    rw [World.cell?_alloc_new, Nat.zero_add]
    simpa using hj
  have N1 : Hid (∀ u ∈ ([.slice A l.length c, .slice B' d.length k'] : List Value), u.oneCell' = true) := Lib.hid (fun u hu => by
    rcases List.mem_cons.1 hu with rfl | hu
    · rfl
    · rw [List.mem_singleton] at hu; subst hu; rfl)
  have N2 : Hid (∀ u ∈ ([.slice A l.length c, .slice B' d.length k'] : List Value), IsSl u) := Lib.hid (fun u hu => by
    rcases List.mem_cons.1 hu with rfl | hu
    · exact ⟨_, _, _, rfl⟩
    · rw [List.mem_singleton] at hu; subst hu; exact ⟨_, _, _, rfl⟩)
  have NZ0 : Hid (∀ u ∈ (Value.agg #[.slice none 0 0, .slice none 0 0]).cells.toList, IsSl u) := Lib.hid (fun u hu => by
    have : u = .slice none 0 0 := by simpa [Value.cells] using hu
    exact ⟨_, _, _, this⟩)
  have m1 : Hid (out.length + 1 ≤ maxLen) := Lib.hid (by have := HON.out; unfold maxLen; omega)
  have k1 : Hid ((out.length + 1) * 48 ≤ 140737488355328) := Lib.hid (by have := HON.out; omega)
  have OB : Hid (∀ W : World, (w4.alloc (.cells #[.slice A l.length c, .slice B' d.length k'] 66)).grownBy W (Value.slice vA out.length vc).ownBlock → W.cell? ⟨E.bo, 0, none⟩ = some (.slice vA out.length vc) ∧ W.frozen? ⟨E.bo, 0, none⟩ = false) := Lib.hid fun W hW => by
    have hh := (hW.block _ (lt_of_block G5.out.ho) (fun e => G5.out.ne G5.out.ho (by decide) e.symm)).trans G5.out.ho
    exact ⟨cell_of_one hh, free_of_one hh⟩
  obtain ⟨x0, x1, _, _⟩ := X4.out
  have o0 := cell_of_one G4.out.ho
  have l0 := cell_of_one G4.out.hl
  have hrs := G5.out.rsl
  have HRS := Lib.hid hrs
  clear hrs
  go_upto_region 6 with (at_builtin; refine wpList_append_all _ rfl (.tmp 30) (.tmp 32) 63 rfl IsSl E.base 66 i0 _ 2 48 Tryz.underlying63 hi0 hz0 hz1 hz2 rfl (by omega) (.slice vA out.length vc) out.length _ rfl G5.out.own HRS.out w4.heap.size 1 1 [.slice A l.length c, .slice B' d.length k'] rfl rfl NZ.out N1.out N2.out NZ0.out (by omega) m1.out k1.out G5.out.bw (out.length + 1) rfl ?_; intro A5 c5 w5 hown5 hg5 hl5 hr5; obtain ⟨p0, p1⟩ := OB.out _ hg5; have HO5 := Lib.hid hown5; have HG5 := Lib.hid hg5; have HL5 := Lib.hid hl5; have HR5 := Lib.hid hr5; clear hown5 hg5 hl5 hr5)
  have G6 : Hid (LR E ⟨A, c, l, B, k, d⟩ ⟨A, c, l, B', k', dd⟩ (.slice A l.length c) (.slice B' d.length k') out v w w.heap.size 0 (w5.setCell ⟨E.bo, 0, none⟩ (.slice A5 (out.length + 1) c5))) := Lib.hid (by
    have hn5 := NwOk.grow HRS.out (N4.out.below BA.out (Nat.le_refl _)) HG5.out
    have hv1 : (⟨A, c, l, B', k', dd⟩ : Nw).v1 = .slice B' d.length k' := by unfold Nw.v1; rw [HDDL.out]
    have hown : w5.ownsRow E.base 66 2 (.slice A5 (out.length + 1) c5) (out.length + 1) (nflat out ++ [(⟨A, c, l, B', k', dd⟩ : Nw).v0, (⟨A, c, l, B', k', dd⟩ : Nw).v1]) := by rw [hv1]; exact HO5.out
    have hgi := GIx.push HE.out G5.out HZ.out hown HG5.out HR5.out hn5 (fun x hx => NwOk.grow HRS.out (G5.out.ok x hx) HG5.out) HNW.out
    have hbn : w.heap.size < w4.heap.size := X4.out.lt
    have hs4 : (w4.alloc (.cells #[.slice A l.length c, .slice B' d.length k'] 66)).heap.size = w4.heap.size + 1 := by rw [World.size_alloc]
    have hnb : (Value.slice vA out.length vc).ownBlock ≠ some w.heap.size := fun e => by have := (HP.out.gi.row _ (HV0.out ▸ e)).2; omega
    have hax : Nx v (.slice A5 (out.length + 1) c5) w := by
      rcases HL5.out with q | q
      · exact .inl (q.trans (by rw [HV0.out]))
      · exact .inr ⟨_, q, by rw [hs4]; omega⟩
    refine ⟨_, out ++ [⟨A, c, l, B', k', dd⟩], ?_, ?_, ?_, hax, ⟨[], by simp⟩, ?_, ?_⟩
    · show GIx E _ _ _ (keysOfOut (out ++ [⟨A, c, l, B', k', dd⟩]))
      rw [keys_append]; exact hgi
    · have hb5 := X4.out.below BA.out hbn
      exact (hb5.keep (HG5.out.block _ (by rw [hs4]; omega) (fun e => hnb e.symm))).other _ (fun e => by have := lt_of_block HP.out.gi.ho; have e2 : w.heap.size = E.bo := e; omega)
    · have h1 := A4.out.trans (Nx.refl _ _) (AK.ofBelow BA.out)
      rw [HV0.out] at h1 ⊢
      exact (h1.trans (Nx.refl _ _) (AK.ofRow HG5.out)).setBo _
    · rw [sts_append]
      have := AddInv.first (S := sysOf E.ps) (L := E.L) (n := (l, d)) HP.out.nodup (by rw [← HDD.out]; exact HNI.out)
      rw [← HDD.out] at this
      exact this
    · rcases HL5.out with q | q
      · rw [q]; exact hnb
      · rw [q, hs4]; intro e; have := Option.some.inj e; omega)
  clear HO5 HG5 HL5 HR5 HRS OB NZ N1 N2 NZ0 m1 k1 BA G5 G4 X4 N4 A4 HON HNI HRl o0 l0 x0 x1 p0 p1
  have l6 : (w5.setCell ⟨E.bo, 0, none⟩ (.slice A5 (out.length + 1) c5)).cell? ⟨E.bl, 0, none⟩ = some (.slice E.V E.L.length E.cv) := by
    obtain ⟨_, _, hg, _⟩ := G6.out
    exact cell_of_one hg.hl
  go_wp2
  clear l6
  obtain ⟨nL, hnL⟩ : ∃ nL, nL = E.L.length := ⟨_, rfl⟩
  have HNL := Lib.hid hnL
  rw [← hnL] at vb ⊢
  clear hnL
  go_loopw [36] (fun x wr => ∃ j : Nat, j ≤ nL ∧ x = .int .i64 j ∧ LR E ⟨A, c, l, B, k, d⟩ ⟨A, c, l, B', k', dd⟩ (.slice A l.length c) (.slice B' d.length k') out v w w.heap.size j wr) (fun x _ => nL - (intOf x).toNat)
  case atStart => exact ⟨0, Nat.zero_le _, rfl, G6.out⟩
  case round => as_aux_lemma =>
    clear G6
    obtain ⟨j, hj, rfl, hlr⟩ := hrel
    obtain ⟨v', out', hg, hx, hak, hnx, hmore, hinv, hnb⟩ := hlr
    have GG := Lib.hid hg
    have XX := Lib.hid hx
    have AA := Lib.hid hak
    have NN := Lib.hid hnx
    have MM := Lib.hid hmore
    have II := Lib.hid hinv
    have BB := Lib.hid hnb
    clear hg hx hak hnx hmore hinv hnb
    obtain ⟨w0, hw0⟩ : ∃ w0, w0 = wr := ⟨_, rfl⟩
    subst hw0
    by_cases hlt : j < nL
    · have j0 : (0 : Int) ≤ (j : Int) := by omega
      have j1 : (j : Int) < (nL : Int) := by omega
      have n3 : IntKind.i64.wrap ((j : Int) + 1) = (j : Int) + 1 := by rw [IntKind.wrap_i64] <;> omega
      obtain ⟨i, hi⟩ : ∃ i, E.L[j]? = some i := ⟨E.L[j]'(by rw [← HNL.out]; exact hlt), List.getElem?_eq_getElem _⟩
      have HI := Lib.hid hi
      have hin : i < E.ps.length := HE.out.live i (List.mem_of_getElem? hi)
      have hid' : i < d.length := by rw [HDL.out]; exact hin
      have hidd : i < dd.length := by rw [HDDL.out]; exact hid'
      clear hi
      have i0 : (0 : Int) ≤ (i : Int) := by omega
      have i1 : (i : Int) < (E.ps.length : Int) := by omega
      have i2 : (i : Int) < (d.length : Int) := by omega
      obtain ⟨vb', vo, hVe, hvc⟩ := GG.out.lv (by unfold nats; rw [List.length_map, ← HNL.out]; omega)
      have HVE := Lib.hid hVe
      have cv1 := hvc j (.int .i64 (i : Int)) (by unfold nats; rw [List.getElem?_map, HI.out]; rfl)
      clear hvc
      obtain ⟨pb', po, hPe, hpt⟩ := sl_pt GG.out.pts (ptAt_some hin)
      have HPE := Lib.hid hPe
      obtain ⟨p, hpp⟩ : ∃ p, p = ptAt E.ps i := ⟨_, rfl⟩
      rw [← hpp] at hpt
      have HPP := Lib.hid hpp
      clear hpp
      have HPT := Lib.hid hpt
      obtain ⟨p0, p1, p2, p3, p4, p5, p6, p7, p8, p9, p10, p11, p12, p13⟩ := hpt
      obtain ⟨c0, c1, f0, f1⟩ := XX.out
      have q0 := cell_of_one GG.out.hp
      rw [hPe] at q0
      rw [hVe]
      clear hPe hVe
      have NO : Hid (NwOk w0 ⟨A, c, l, B', k', dd⟩) := Lib.hid (by
        obtain ⟨news, e⟩ := MM.out
        exact GG.out.ok _ (by rw [e]; simp))
      obtain ⟨g, go, hBe, hgc⟩ := NO.out.2 (by rw [List.length_map]; show 0 < dd.length; omega)
      have hBe' : B' = some ⟨g, go, none⟩ := hBe
      have cd : w0.cell? ⟨g, go + i, none⟩ = some (.bool (isD dd i)) := hgc i _ (by
        show (dd.map Value.bool)[i]? = _
        rw [List.getElem?_map, List.getElem?_eq_getElem hidd]
        unfold isD
        rw [List.getD_eq_getElem?_getD, List.getElem?_eq_getElem hidd]; rfl)
      clear hgc hBe
      subst hBe'
      have TB : Hid (∀ W : World, Calls Tryz.prog 95 #[.int .i64 p.k] W fun e w' => e = .returned (.bool (turnsB p.k)) ∧ W = w') := Lib.hid fun W => turns_any p.k W
      have TE : Hid (turnsB p.k = (sysOf E.ps).turn i) := Lib.hid (by rw [HPP.out]; rfl)
      generalize turnsB p.k = tb at TB TE
      obtain ⟨db, hdb⟩ : ∃ db, db = isD dd i := ⟨_, rfl⟩
      rw [← hdb] at cd
      have HDB := Lib.hid hdb
      clear hdb
      have SK : Hid (db = true ∨ tb = false → LR E ⟨A, c, l, B, k, d⟩ ⟨A, c, l, some ⟨g, go, none⟩, k', dd⟩ (.slice A l.length c) (.slice (some ⟨g, go, none⟩) d.length k') out v w w.heap.size (j + 1) w0) := Lib.hid fun h =>
        ⟨v', out', GG.out, XX.out, AA.out, NN.out, MM.out, II.out.skip HI.out (by
          unfold goes
          show (!isD (rd (sysOf E.ps) E.L l d) i && (sysOf E.ps).turn i && _) = false
          rw [← HDD.out, ← HDB.out, ← TE.out]
          rcases h with rfl | rfl <;> simp), BB.out⟩
      cases db
      case true => as_aux_lemma =>
        go_wp2
        go_roundw
        case rel => exact ⟨j + 1, by omega, by go_num, SK.out (by simp)⟩
        case measure => simp [intOf]; omega
      case false =>
      cases tb
      case false => as_aux_lemma =>
        go_wp2_with (go_at_call 95; ((with_reducible refine (TB.out _).mono ?_); rintro e w' ⟨rfl, rfl⟩))
        go_roundw
        case rel => exact ⟨j + 1, by omega, by go_num, SK.out (by simp)⟩
        case measure => simp [intOf]; omega
      case true =>
      clear SK
      go_upto_region 10 with (go_at_call 95; ((with_reducible refine (TB.out _).mono ?_); rintro e w' ⟨rfl, rfl⟩))
      obtain ⟨an, han⟩ : ∃ an, an = doA l (opOf p) := ⟨_, rfl⟩
      obtain ⟨gl, hgl⟩ : ∃ gl, gl = doG l (opOf p) := ⟨_, rfl⟩
      have HAN := Lib.hid han
      have HGL := Lib.hid hgl
      clear han hgl
      have DC : Hid (∀ W : World, Below w0.heap.size w0 W → Calls Tryz.prog 96 #[.slice A l.length c, .agg #[.int .i64 p.k, .int .i64 p.u, .int .i64 p.v, .int .u64 p.x]] W fun e w' => ∃ X dd C f, e = .returned (.tuple #[.slice X gl.length dd, .agg #[.int .i64 an.err, .bool an.is, .int .i64 an.n, .int .u64 an.w, .slice C an.list.length f]]) ∧ Arcs w' X gl ∧ Below W.heap.size W w') := Lib.hid fun W hW => by
        have := do_any A c l.length l (opOf p) W rfl (NO.out.1.below hW (Nat.le_refl _)) HP.out.gs.rises (by omega) (HE.out.fine p (by rw [HPP.out]; exact ptAt_mem hin))
        refine this.mono ?_
        rintro e w' ⟨X, dd, C, f, rfl, h1, _, hb⟩
        exact ⟨X, dd, C, f, by rw [HAN.out, HGL.out]; rfl, by rw [HGL.out]; exact h1, hb⟩
      clear c0 c1 f0 f1 p0 p1 p2 p3 p4 p5 p6 p7 p8 p9 p10 p11 p12 p13 q0 cd cv1 TB
      have Q0 : Hid (w0.cell? ⟨E.bp, 0, none⟩ = some (.slice (some ⟨pb', po, none⟩) E.ps.length E.cp)) := Lib.hid (by rw [cell_of_one GG.out.hp, HPE.out])
      go_cut [11, 12] from 55 to 66 (fun x y wx => ∃ X d2 b2 C f, x = .slice X gl.length d2 ∧ y = .pointer (some ⟨b2, 0, none⟩) ∧ OutAt wx b2 an C f ∧ Arcs wx X gl ∧ Below w0.heap.size w0 wx)
      case first => as_aux_lemma =>
        go_wp2
        have NB : Hid (∀ W : World, Below ((w0.alloc (.cells #[.int .i64 0, .bool false, .int .i64 0, .int .u64 0, .slice none 0 0] 41)).drew).heap.size ((w0.alloc (.cells #[.int .i64 0, .bool false, .int .i64 0, .int .u64 0, .slice none 0 0] 41)).drew) W → (W.cell? ⟨w0.heap.size, 0, none⟩ = some (.int .i64 0) ∧ W.cell? ⟨w0.heap.size, 1, none⟩ = some (.bool false) ∧ W.cell? ⟨w0.heap.size, 2, none⟩ = some (.int .i64 0) ∧ W.cell? ⟨w0.heap.size, 3, none⟩ = some (.int .u64 0) ∧ W.cell? ⟨w0.heap.size, 4, none⟩ = some (.slice none 0 0)) ∧ (W.frozen? ⟨w0.heap.size, 0, none⟩ = false ∧ W.frozen? ⟨w0.heap.size, 1, none⟩ = false ∧ W.frozen? ⟨w0.heap.size, 2, none⟩ = false ∧ W.frozen? ⟨w0.heap.size, 3, none⟩ = false ∧ W.frozen? ⟨w0.heap.size, 4, none⟩ = false) ∧ Below w0.heap.size w0 W) := Lib.hid fun W hW => by
          have hs : w0.heap.size < ((w0.alloc (.cells #[.int .i64 0, .bool false, .int .i64 0, .int .u64 0, .slice none 0 0] 41)).drew).heap.size := by show _ < (w0.alloc _).heap.size; rw [World.size_alloc]; omega
          have h0 : Below w0.heap.size w0 ((w0.alloc (.cells #[.int .i64 0, .bool false, .int .i64 0, .int .u64 0, .slice none 0 0] 41)).drew) := ((Below.refl _ _).alloc (Nat.le_refl _) _).drew
          exact ⟨⟨(hW.cell (p := ⟨w0.heap.size, 0, none⟩) hs).trans ((World.cell?_alloc_new w0 _ _ _).trans rfl), (hW.cell (p := ⟨w0.heap.size, 1, none⟩) hs).trans ((World.cell?_alloc_new w0 _ _ _).trans rfl), (hW.cell (p := ⟨w0.heap.size, 2, none⟩) hs).trans ((World.cell?_alloc_new w0 _ _ _).trans rfl), (hW.cell (p := ⟨w0.heap.size, 3, none⟩) hs).trans ((World.cell?_alloc_new w0 _ _ _).trans rfl), (hW.cell (p := ⟨w0.heap.size, 4, none⟩) hs).trans ((World.cell?_alloc_new w0 _ _ _).trans rfl)⟩, ⟨(hW.frozen (p := ⟨w0.heap.size, 0, none⟩) hs).trans (frozen_new w0 _ _ 0), (hW.frozen (p := ⟨w0.heap.size, 1, none⟩) hs).trans (frozen_new w0 _ _ 1), (hW.frozen (p := ⟨w0.heap.size, 2, none⟩) hs).trans (frozen_new w0 _ _ 2), (hW.frozen (p := ⟨w0.heap.size, 3, none⟩) hs).trans (frozen_new w0 _ _ 3), (hW.frozen (p := ⟨w0.heap.size, 4, none⟩) hs).trans (frozen_new w0 _ _ 4)⟩, h0.trans (hW.mono (by omega))⟩
        have LW : Hid (∀ W : World, Below w0.heap.size w0 W → W.cell? ⟨w.heap.size, 0, none⟩ = some (.slice A l.length c) ∧ W.cell? ⟨E.bp, 0, none⟩ = some (.slice (some ⟨pb', po, none⟩) E.ps.length E.cp) ∧ W.cell? ⟨pb', po + i * 14, none⟩ = some (.int .i64 p.k) ∧ W.cell? ⟨pb', po + i * 14 + 1, none⟩ = some (.int .i64 p.u) ∧ W.cell? ⟨pb', po + i * 14 + 2, none⟩ = some (.int .i64 p.v) ∧ W.cell? ⟨pb', po + i * 14 + 3, none⟩ = some (.int .u64 p.x) ∧ Below w0.heap.size w0 W) := Lib.hid fun W hW => ⟨cellL (XX.out.c0) hW, cellL (Q0.out) hW, cellL (HPT.out.1) hW, cellL (HPT.out.2.1) hW, cellL (HPT.out.2.2.1) hW, cellL (HPT.out.2.2.2.1) hW, hW⟩
        have SS := Lib.hid (LW.out w0.drew (Below.refl _ _).drew)
        have SD : Hid (∀ o : Obj, (w0.alloc o).drew.cell? ⟨w.heap.size, 0, none⟩ = some (.slice A l.length c) ∧ (w0.alloc o).drew.cell? ⟨E.bp, 0, none⟩ = some (.slice (some ⟨pb', po, none⟩) E.ps.length E.cp) ∧ (w0.alloc o).drew.cell? ⟨pb', po + i * 14, none⟩ = some (.int .i64 p.k) ∧ (w0.alloc o).drew.cell? ⟨pb', po + i * 14 + 1, none⟩ = some (.int .i64 p.u) ∧ (w0.alloc o).drew.cell? ⟨pb', po + i * 14 + 2, none⟩ = some (.int .i64 p.v) ∧ (w0.alloc o).drew.cell? ⟨pb', po + i * 14 + 3, none⟩ = some (.int .u64 p.x) ∧ Below w0.heap.size w0 (w0.alloc o).drew) := Lib.hid fun o => LW.out _ ((Below.refl _ _).alloc (Nat.le_refl _) o).drew
        have KK : Hid (∀ (W W' : World), (W.cell? ⟨w.heap.size, 0, none⟩ = some (.slice A l.length c) ∧ W.cell? ⟨E.bp, 0, none⟩ = some (.slice (some ⟨pb', po, none⟩) E.ps.length E.cp) ∧ W.cell? ⟨pb', po + i * 14, none⟩ = some (.int .i64 p.k) ∧ W.cell? ⟨pb', po + i * 14 + 1, none⟩ = some (.int .i64 p.u) ∧ W.cell? ⟨pb', po + i * 14 + 2, none⟩ = some (.int .i64 p.v) ∧ W.cell? ⟨pb', po + i * 14 + 3, none⟩ = some (.int .u64 p.x) ∧ Below w0.heap.size w0 W) → Below W.heap.size W W' → W'.cell? ⟨w.heap.size, 0, none⟩ = some (.slice A l.length c) ∧ W'.cell? ⟨E.bp, 0, none⟩ = some (.slice (some ⟨pb', po, none⟩) E.ps.length E.cp) ∧ W'.cell? ⟨pb', po + i * 14, none⟩ = some (.int .i64 p.k) ∧ W'.cell? ⟨pb', po + i * 14 + 1, none⟩ = some (.int .i64 p.u) ∧ W'.cell? ⟨pb', po + i * 14 + 2, none⟩ = some (.int .i64 p.v) ∧ W'.cell? ⟨pb', po + i * 14 + 3, none⟩ = some (.int .u64 p.x) ∧ Below w0.heap.size w0 W') := Lib.hid fun W W' h hW => LW.out W' (h.2.2.2.2.2.2.trans (hW.mono h.2.2.2.2.2.2.size))
        have KA : Hid (∀ (W : World) (o : Obj), (W.cell? ⟨w.heap.size, 0, none⟩ = some (.slice A l.length c) ∧ W.cell? ⟨E.bp, 0, none⟩ = some (.slice (some ⟨pb', po, none⟩) E.ps.length E.cp) ∧ W.cell? ⟨pb', po + i * 14, none⟩ = some (.int .i64 p.k) ∧ W.cell? ⟨pb', po + i * 14 + 1, none⟩ = some (.int .i64 p.u) ∧ W.cell? ⟨pb', po + i * 14 + 2, none⟩ = some (.int .i64 p.v) ∧ W.cell? ⟨pb', po + i * 14 + 3, none⟩ = some (.int .u64 p.x) ∧ Below w0.heap.size w0 W) → (W.alloc o).cell? ⟨w.heap.size, 0, none⟩ = some (.slice A l.length c) ∧ (W.alloc o).cell? ⟨E.bp, 0, none⟩ = some (.slice (some ⟨pb', po, none⟩) E.ps.length E.cp) ∧ (W.alloc o).cell? ⟨pb', po + i * 14, none⟩ = some (.int .i64 p.k) ∧ (W.alloc o).cell? ⟨pb', po + i * 14 + 1, none⟩ = some (.int .i64 p.u) ∧ (W.alloc o).cell? ⟨pb', po + i * 14 + 2, none⟩ = some (.int .i64 p.v) ∧ (W.alloc o).cell? ⟨pb', po + i * 14 + 3, none⟩ = some (.int .u64 p.x) ∧ Below w0.heap.size w0 (W.alloc o)) := Lib.hid fun W o h => LW.out _ (h.2.2.2.2.2.2.alloc h.2.2.2.2.2.2.size o)
        have KS : Hid (∀ (W : World) (j : Nat) (v : Value), (W.cell? ⟨w.heap.size, 0, none⟩ = some (.slice A l.length c) ∧ W.cell? ⟨E.bp, 0, none⟩ = some (.slice (some ⟨pb', po, none⟩) E.ps.length E.cp) ∧ W.cell? ⟨pb', po + i * 14, none⟩ = some (.int .i64 p.k) ∧ W.cell? ⟨pb', po + i * 14 + 1, none⟩ = some (.int .i64 p.u) ∧ W.cell? ⟨pb', po + i * 14 + 2, none⟩ = some (.int .i64 p.v) ∧ W.cell? ⟨pb', po + i * 14 + 3, none⟩ = some (.int .u64 p.x) ∧ Below w0.heap.size w0 W) → (W.setCell ⟨w0.heap.size, j, none⟩ v).cell? ⟨w.heap.size, 0, none⟩ = some (.slice A l.length c) ∧ (W.setCell ⟨w0.heap.size, j, none⟩ v).cell? ⟨E.bp, 0, none⟩ = some (.slice (some ⟨pb', po, none⟩) E.ps.length E.cp) ∧ (W.setCell ⟨w0.heap.size, j, none⟩ v).cell? ⟨pb', po + i * 14, none⟩ = some (.int .i64 p.k) ∧ (W.setCell ⟨w0.heap.size, j, none⟩ v).cell? ⟨pb', po + i * 14 + 1, none⟩ = some (.int .i64 p.u) ∧ (W.setCell ⟨w0.heap.size, j, none⟩ v).cell? ⟨pb', po + i * 14 + 2, none⟩ = some (.int .i64 p.v) ∧ (W.setCell ⟨w0.heap.size, j, none⟩ v).cell? ⟨pb', po + i * 14 + 3, none⟩ = some (.int .u64 p.x) ∧ Below w0.heap.size w0 (W.setCell ⟨w0.heap.size, j, none⟩ v)) := Lib.hid fun W j v h => LW.out _ (h.2.2.2.2.2.2.setCell (p := ⟨w0.heap.size, j, none⟩) (Nat.le_refl _) v)
        have BW : Hid (∀ W : World, (W.cell? ⟨w.heap.size, 0, none⟩ = some (.slice A l.length c) ∧ W.cell? ⟨E.bp, 0, none⟩ = some (.slice (some ⟨pb', po, none⟩) E.ps.length E.cp) ∧ W.cell? ⟨pb', po + i * 14, none⟩ = some (.int .i64 p.k) ∧ W.cell? ⟨pb', po + i * 14 + 1, none⟩ = some (.int .i64 p.u) ∧ W.cell? ⟨pb', po + i * 14 + 2, none⟩ = some (.int .i64 p.v) ∧ W.cell? ⟨pb', po + i * 14 + 3, none⟩ = some (.int .u64 p.x) ∧ Below w0.heap.size w0 W) → Below w0.heap.size w0 W) := Lib.hid fun W h => h.2.2.2.2.2.2
        clear LW
        go_region_held3 (fun w' => w'.cell? ⟨w.heap.size, 0, none⟩ = some (.slice A l.length c) ∧ w'.cell? ⟨E.bp, 0, none⟩ = some (.slice (some ⟨pb', po, none⟩) E.ps.length E.cp) ∧ w'.cell? ⟨pb', po + i * 14, none⟩ = some (.int .i64 p.k) ∧ w'.cell? ⟨pb', po + i * 14 + 1, none⟩ = some (.int .i64 p.u) ∧ w'.cell? ⟨pb', po + i * 14 + 2, none⟩ = some (.int .i64 p.v) ∧ w'.cell? ⟨pb', po + i * 14 + 3, none⟩ = some (.int .u64 p.x) ∧ Below w0.heap.size w0 w')
          (first | (with_reducible exact SS.out) | (with_reducible exact SD.out _) | (with_reducible assumption) | ((with_reducible refine KA.out _ _ ?_); first | (with_reducible exact SS.out) | (with_reducible exact SD.out _) | (with_reducible assumption) | ((with_reducible refine KA.out _ _ ?_); first | (with_reducible exact SS.out) | (with_reducible exact SD.out _) | (with_reducible assumption)) | ((with_reducible refine KK.out ?_ _ ?_ ?_); rotate_left 2; (with_reducible assumption); first | (with_reducible exact SS.out) | (with_reducible exact SD.out _) | (with_reducible assumption) | ((with_reducible refine KA.out _ _ ?_); first | (with_reducible exact SS.out) | (with_reducible exact SD.out _) | (with_reducible assumption)))) | ((with_reducible refine KK.out ?_ _ ?_ ?_); rotate_left 2; (with_reducible assumption); first | (with_reducible exact SS.out) | (with_reducible exact SD.out _) | (with_reducible assumption) | ((with_reducible refine KA.out _ _ ?_); first | (with_reducible exact SS.out) | (with_reducible exact SD.out _) | (with_reducible assumption)) | ((with_reducible refine KK.out ?_ _ ?_ ?_); rotate_left 2; (with_reducible assumption); first | (with_reducible exact SS.out) | (with_reducible exact SD.out _) | (with_reducible assumption) | ((with_reducible refine KA.out _ _ ?_); first | (with_reducible exact SS.out) | (with_reducible exact SD.out _) | (with_reducible assumption)))) | ((with_reducible refine KS.out _ _ _ ?_); (repeat (with_reducible refine KS.out _ _ _ ?_)); first | (with_reducible exact SS.out) | (with_reducible exact SD.out _) | (with_reducible assumption) | ((with_reducible refine KA.out _ _ ?_); first | (with_reducible exact SS.out) | (with_reducible exact SD.out _) | (with_reducible assumption)) | ((with_reducible refine KK.out ?_ _ ?_ ?_); rotate_left 2; (with_reducible assumption); first | (with_reducible exact SS.out) | (with_reducible exact SD.out _) | (with_reducible assumption) | ((with_reducible refine KA.out _ _ ?_); first | (with_reducible exact SS.out) | (with_reducible exact SD.out _) | (with_reducible assumption)))))
          (first | (go_at_call 96; ((with_reducible refine (DC.out _ ?_).mono ?_); (focus ((with_reducible refine BW.out _ ?_); first | (with_reducible exact SS.out) | (with_reducible exact SD.out _) | (with_reducible assumption) | ((with_reducible refine KA.out _ _ ?_); first | (with_reducible exact SS.out) | (with_reducible exact SD.out _) | (with_reducible assumption)))); rintro e wa ⟨X, d2, C, f, rfl, ha1, hb1⟩; have HA1 := Lib.hid ha1; clear ha1; with_reducible have nb := NB.out _ hb1; obtain ⟨n0, n1, n2, n3, n4⟩ := nb.1; obtain ⟨g0, g1, g2, g3, g4⟩ := nb.2.1; clear nb)) | (go_at_call 96; ((with_reducible refine (DC.out _ ?_).mono ?_); (focus ((with_reducible refine BW.out _ ?_); first | (with_reducible exact SS.out) | (with_reducible exact SD.out _) | (with_reducible assumption) | ((with_reducible refine KA.out _ _ ?_); first | (with_reducible exact SS.out) | (with_reducible exact SD.out _) | (with_reducible assumption)))); rintro e wa ⟨X, d2, C, f, rfl, ha1, hb1⟩; have HA1 := Lib.hid ha1; clear ha1)))
        · go_wp2
          go_meet
          have hb2 := BW.out _ (KK.out _ _ SS.out hb1)
          exact ⟨_, _, _, C, f, rfl, rfl, OutAt.new wa an C f 41, HA1.out.below ((Below.refl _ _).alloc (Nat.le_refl _) _) (Nat.le_refl _), hb2.alloc hb2.size _⟩
        · go_wp2
          go_meet
          have hb2 := BW.out _ (KK.out _ _ (SD.out _) hb1)
          have hh : wa.heap[w0.heap.size]? = some (.cells #[.int .i64 0, .bool false, .int .i64 0, .int .u64 0, .slice none 0 0] 41 (0, 0)) := (hb1.block w0.heap.size (by show w0.heap.size < (w0.alloc _).heap.size; rw [World.size_alloc]; omega)).trans (heap_alloc_new w0 _)
          exact ⟨_, _, _, C, f, rfl, rfl, OutAt.put n0 n1 n2 n3 n4 an C f, arcs_box5 HA1.out hh _ _ _ _ _, ((((hb2.setCell (p := ⟨w0.heap.size, 0, none⟩) (Nat.le_refl _) _).setCell (p := ⟨w0.heap.size, 1, none⟩) (Nat.le_refl _) _).setCell (p := ⟨w0.heap.size, 2, none⟩) (Nat.le_refl _) _).setCell (p := ⟨w0.heap.size, 3, none⟩) (Nat.le_refl _) _).setCell (p := ⟨w0.heap.size, 4, none⟩) (Nat.le_refl _) _⟩
      case rest => as_aux_lemma =>
      obtain ⟨X, d2, b2, C, f, rfl, rfl, hO, hAX, hbw⟩ := hcut
      have HO := Lib.hid hO
      have HAX := Lib.hid hAX
      have HBW := Lib.hid hbw
      clear hO hAX hbw
      obtain ⟨w5, hw5⟩ : ∃ w5, w5 = wc := ⟨_, rfl⟩
      subst hw5
      clear DC
      have Q5 : Hid (w5.cell? ⟨E.bp, 0, none⟩ = some (.slice (some ⟨pb', po, none⟩) E.ps.length E.cp)) := Lib.hid (cellL Q0.out HBW.out)
      have HPT2 : Hid (PAt w5 pb' (po + i * 14) p) := Lib.hid (by
        obtain ⟨p0, p1, p2, p3, p4, p5, p6, p7, p8, p9, p10, p11, p12, p13⟩ := HPT.out
        exact ⟨cellL p0 HBW.out, cellL p1 HBW.out, cellL p2 HBW.out, cellL p3 HBW.out, cellL p4 HBW.out, cellL p5 HBW.out, cellL p6 HBW.out, cellL p7 HBW.out, cellL p8 HBW.out, cellL p9 HBW.out, cellL p10 HBW.out, cellL p11 HBW.out, cellL p12 HBW.out, cellL p13 HBW.out⟩)
      have DF : Hid (∀ W : World, Calls Tryz.prog 97 #[.agg #[.int .i64 p.k, .int .i64 p.u, .int .i64 p.v, .int .u64 p.x, .int .i64 p.err, .bool p.is, .int .i64 p.n, .int .u64 p.w, .slice none 0 0, .bool p.any, .int .i64 p.fr, .int .i64 p.to, .int .i64 p.era, .bool p.must], .agg #[.int .i64 an.err, .bool an.is, .int .i64 an.n, .int .u64 an.w, .slice C an.list.length f]] W fun e w' => e = .returned (.bool (fitP p an)) ∧ Below W.heap.size W w') := Lib.hid fun W => fits_any p an C f W
      have HFB : Hid ((sysOf E.ps).fit i l = fitP p an) := Lib.hid (by rw [fit_sys, HAN.out, HPP.out])
      generalize fitP p an = fb at DF HFB
      go_upto_region 11 with fail
      go_cut [72] from 66 to 73 (fun x wx => x = .bool (!fb) ∧ Below w5.heap.size w5 wx)
      case first => as_aux_lemma =>
        go_wp2
        have SS : Hid (w5.drew.cell? ⟨E.bp, 0, none⟩ = some (.slice (some ⟨pb', po, none⟩) E.ps.length E.cp) ∧ w5.drew.cell? ⟨pb', po + i * 14, none⟩ = some (.int .i64 p.k) ∧ w5.drew.cell? ⟨pb', po + i * 14 + 1, none⟩ = some (.int .i64 p.u) ∧ w5.drew.cell? ⟨pb', po + i * 14 + 2, none⟩ = some (.int .i64 p.v) ∧ w5.drew.cell? ⟨pb', po + i * 14 + 3, none⟩ = some (.int .u64 p.x) ∧ w5.drew.cell? ⟨pb', po + i * 14 + 4, none⟩ = some (.int .i64 p.err) ∧ w5.drew.cell? ⟨pb', po + i * 14 + 5, none⟩ = some (.bool p.is) ∧ w5.drew.cell? ⟨pb', po + i * 14 + 6, none⟩ = some (.int .i64 p.n) ∧ w5.drew.cell? ⟨pb', po + i * 14 + 7, none⟩ = some (.int .u64 p.w) ∧ w5.drew.cell? ⟨pb', po + i * 14 + 8, none⟩ = some (.slice none 0 0) ∧ w5.drew.cell? ⟨pb', po + i * 14 + 9, none⟩ = some (.bool p.any) ∧ w5.drew.cell? ⟨pb', po + i * 14 + 10, none⟩ = some (.int .i64 p.fr) ∧ w5.drew.cell? ⟨pb', po + i * 14 + 11, none⟩ = some (.int .i64 p.to) ∧ w5.drew.cell? ⟨pb', po + i * 14 + 12, none⟩ = some (.int .i64 p.era) ∧ w5.drew.cell? ⟨pb', po + i * 14 + 13, none⟩ = some (.bool p.must) ∧ w5.drew.cell? ⟨b2, 0, none⟩ = some (.int .i64 an.err) ∧ w5.drew.cell? ⟨b2, 1, none⟩ = some (.bool an.is) ∧ w5.drew.cell? ⟨b2, 2, none⟩ = some (.int .i64 an.n) ∧ w5.drew.cell? ⟨b2, 3, none⟩ = some (.int .u64 an.w) ∧ w5.drew.cell? ⟨b2, 4, none⟩ = some (.slice C an.list.length f)) := Lib.hid ⟨Q5.out, HPT2.out.1, HPT2.out.2.1, HPT2.out.2.2.1, HPT2.out.2.2.2.1, HPT2.out.2.2.2.2.1, HPT2.out.2.2.2.2.2.1, HPT2.out.2.2.2.2.2.2.1, HPT2.out.2.2.2.2.2.2.2.1, HPT2.out.2.2.2.2.2.2.2.2.1, HPT2.out.2.2.2.2.2.2.2.2.2.1, HPT2.out.2.2.2.2.2.2.2.2.2.2.1, HPT2.out.2.2.2.2.2.2.2.2.2.2.2.1, HPT2.out.2.2.2.2.2.2.2.2.2.2.2.2.1, HPT2.out.2.2.2.2.2.2.2.2.2.2.2.2.2, HO.out.c0, HO.out.c1, HO.out.c2, HO.out.c3, HO.out.c4⟩
        have KK : Hid (∀ (W W' : World), (W.cell? ⟨E.bp, 0, none⟩ = some (.slice (some ⟨pb', po, none⟩) E.ps.length E.cp) ∧ W.cell? ⟨pb', po + i * 14, none⟩ = some (.int .i64 p.k) ∧ W.cell? ⟨pb', po + i * 14 + 1, none⟩ = some (.int .i64 p.u) ∧ W.cell? ⟨pb', po + i * 14 + 2, none⟩ = some (.int .i64 p.v) ∧ W.cell? ⟨pb', po + i * 14 + 3, none⟩ = some (.int .u64 p.x) ∧ W.cell? ⟨pb', po + i * 14 + 4, none⟩ = some (.int .i64 p.err) ∧ W.cell? ⟨pb', po + i * 14 + 5, none⟩ = some (.bool p.is) ∧ W.cell? ⟨pb', po + i * 14 + 6, none⟩ = some (.int .i64 p.n) ∧ W.cell? ⟨pb', po + i * 14 + 7, none⟩ = some (.int .u64 p.w) ∧ W.cell? ⟨pb', po + i * 14 + 8, none⟩ = some (.slice none 0 0) ∧ W.cell? ⟨pb', po + i * 14 + 9, none⟩ = some (.bool p.any) ∧ W.cell? ⟨pb', po + i * 14 + 10, none⟩ = some (.int .i64 p.fr) ∧ W.cell? ⟨pb', po + i * 14 + 11, none⟩ = some (.int .i64 p.to) ∧ W.cell? ⟨pb', po + i * 14 + 12, none⟩ = some (.int .i64 p.era) ∧ W.cell? ⟨pb', po + i * 14 + 13, none⟩ = some (.bool p.must) ∧ W.cell? ⟨b2, 0, none⟩ = some (.int .i64 an.err) ∧ W.cell? ⟨b2, 1, none⟩ = some (.bool an.is) ∧ W.cell? ⟨b2, 2, none⟩ = some (.int .i64 an.n) ∧ W.cell? ⟨b2, 3, none⟩ = some (.int .u64 an.w) ∧ W.cell? ⟨b2, 4, none⟩ = some (.slice C an.list.length f)) → Below W.heap.size W W' → W'.cell? ⟨E.bp, 0, none⟩ = some (.slice (some ⟨pb', po, none⟩) E.ps.length E.cp) ∧ W'.cell? ⟨pb', po + i * 14, none⟩ = some (.int .i64 p.k) ∧ W'.cell? ⟨pb', po + i * 14 + 1, none⟩ = some (.int .i64 p.u) ∧ W'.cell? ⟨pb', po + i * 14 + 2, none⟩ = some (.int .i64 p.v) ∧ W'.cell? ⟨pb', po + i * 14 + 3, none⟩ = some (.int .u64 p.x) ∧ W'.cell? ⟨pb', po + i * 14 + 4, none⟩ = some (.int .i64 p.err) ∧ W'.cell? ⟨pb', po + i * 14 + 5, none⟩ = some (.bool p.is) ∧ W'.cell? ⟨pb', po + i * 14 + 6, none⟩ = some (.int .i64 p.n) ∧ W'.cell? ⟨pb', po + i * 14 + 7, none⟩ = some (.int .u64 p.w) ∧ W'.cell? ⟨pb', po + i * 14 + 8, none⟩ = some (.slice none 0 0) ∧ W'.cell? ⟨pb', po + i * 14 + 9, none⟩ = some (.bool p.any) ∧ W'.cell? ⟨pb', po + i * 14 + 10, none⟩ = some (.int .i64 p.fr) ∧ W'.cell? ⟨pb', po + i * 14 + 11, none⟩ = some (.int .i64 p.to) ∧ W'.cell? ⟨pb', po + i * 14 + 12, none⟩ = some (.int .i64 p.era) ∧ W'.cell? ⟨pb', po + i * 14 + 13, none⟩ = some (.bool p.must) ∧ W'.cell? ⟨b2, 0, none⟩ = some (.int .i64 an.err) ∧ W'.cell? ⟨b2, 1, none⟩ = some (.bool an.is) ∧ W'.cell? ⟨b2, 2, none⟩ = some (.int .i64 an.n) ∧ W'.cell? ⟨b2, 3, none⟩ = some (.int .u64 an.w) ∧ W'.cell? ⟨b2, 4, none⟩ = some (.slice C an.list.length f)) := Lib.hid fun W W' h hW => ⟨cellL h.1 hW, cellL h.2.1 hW, cellL h.2.2.1 hW, cellL h.2.2.2.1 hW, cellL h.2.2.2.2.1 hW, cellL h.2.2.2.2.2.1 hW, cellL h.2.2.2.2.2.2.1 hW, cellL h.2.2.2.2.2.2.2.1 hW, cellL h.2.2.2.2.2.2.2.2.1 hW, cellL h.2.2.2.2.2.2.2.2.2.1 hW, cellL h.2.2.2.2.2.2.2.2.2.2.1 hW, cellL h.2.2.2.2.2.2.2.2.2.2.2.1 hW, cellL h.2.2.2.2.2.2.2.2.2.2.2.2.1 hW, cellL h.2.2.2.2.2.2.2.2.2.2.2.2.2.1 hW, cellL h.2.2.2.2.2.2.2.2.2.2.2.2.2.2.1 hW, cellL h.2.2.2.2.2.2.2.2.2.2.2.2.2.2.2.1 hW, cellL h.2.2.2.2.2.2.2.2.2.2.2.2.2.2.2.2.1 hW, cellL h.2.2.2.2.2.2.2.2.2.2.2.2.2.2.2.2.2.1 hW, cellL h.2.2.2.2.2.2.2.2.2.2.2.2.2.2.2.2.2.2.1 hW, cellL h.2.2.2.2.2.2.2.2.2.2.2.2.2.2.2.2.2.2.2 hW⟩
        go_region_held3 (fun w' => w'.cell? ⟨E.bp, 0, none⟩ = some (.slice (some ⟨pb', po, none⟩) E.ps.length E.cp) ∧ w'.cell? ⟨pb', po + i * 14, none⟩ = some (.int .i64 p.k) ∧ w'.cell? ⟨pb', po + i * 14 + 1, none⟩ = some (.int .i64 p.u) ∧ w'.cell? ⟨pb', po + i * 14 + 2, none⟩ = some (.int .i64 p.v) ∧ w'.cell? ⟨pb', po + i * 14 + 3, none⟩ = some (.int .u64 p.x) ∧ w'.cell? ⟨pb', po + i * 14 + 4, none⟩ = some (.int .i64 p.err) ∧ w'.cell? ⟨pb', po + i * 14 + 5, none⟩ = some (.bool p.is) ∧ w'.cell? ⟨pb', po + i * 14 + 6, none⟩ = some (.int .i64 p.n) ∧ w'.cell? ⟨pb', po + i * 14 + 7, none⟩ = some (.int .u64 p.w) ∧ w'.cell? ⟨pb', po + i * 14 + 8, none⟩ = some (.slice none 0 0) ∧ w'.cell? ⟨pb', po + i * 14 + 9, none⟩ = some (.bool p.any) ∧ w'.cell? ⟨pb', po + i * 14 + 10, none⟩ = some (.int .i64 p.fr) ∧ w'.cell? ⟨pb', po + i * 14 + 11, none⟩ = some (.int .i64 p.to) ∧ w'.cell? ⟨pb', po + i * 14 + 12, none⟩ = some (.int .i64 p.era) ∧ w'.cell? ⟨pb', po + i * 14 + 13, none⟩ = some (.bool p.must) ∧ w'.cell? ⟨b2, 0, none⟩ = some (.int .i64 an.err) ∧ w'.cell? ⟨b2, 1, none⟩ = some (.bool an.is) ∧ w'.cell? ⟨b2, 2, none⟩ = some (.int .i64 an.n) ∧ w'.cell? ⟨b2, 3, none⟩ = some (.int .u64 an.w) ∧ w'.cell? ⟨b2, 4, none⟩ = some (.slice C an.list.length f))
          (first | (with_reducible exact SS.out) | (with_reducible assumption) | ((with_reducible refine KK.out ?_ _ ?_ ?_); rotate_left 2; (with_reducible assumption); first | (with_reducible exact SS.out) | (with_reducible assumption)))
          (first | (go_at_call 97; ((with_reducible refine (DF.out _).mono ?_); rintro e wa ⟨rfl, hb1⟩)))
        go_wp2
        go_meet
        exact ⟨rfl, Below.trans (Below.refl _ _).drew hb1⟩
      case rest => as_aux_lemma =>
      obtain ⟨rfl, hbw⟩ := hcut
      have HBX := Lib.hid (HBW.out.trans (hbw.mono HBW.out.size))
      have HBY := Lib.hid hbw
      clear hbw
      obtain ⟨w6, hw6⟩ : ∃ w6, w6 = wc := ⟨_, rfl⟩
      subst hw6
      have G6 := Lib.hid (GG.out.later HBX.out)
      have X6 := Lib.hid (XX.out.below HBX.out XX.out.lt)
      have N6 : Hid (NwOk w6 ⟨A, c, l, some ⟨g, go, none⟩, k', dd⟩) := Lib.hid (NO.out.below HBX.out (Nat.le_refl _))
      have HGO : Hid (goes (sysOf E.ps) (l, dd) i = fb) := Lib.hid (by
        unfold goes
        show (!isD dd i && (sysOf E.ps).turn i && (sysOf E.ps).fit i l) = fb
        rw [← HDB.out, ← TE.out, HFB.out]; simp)
      clear Q5 HPT2 DF HO
      cases fb
      case false => as_aux_lemma =>
        go_wp2
        go_roundw
        case rel => exact ⟨j + 1, by omega, by go_num, v', out', G6.out, X6.out, AA.out.trans NN.out (AK.ofBelow HBX.out), NN.out, MM.out, II.out.skip HI.out (by show goes (sysOf E.ps) (l, rd (sysOf E.ps) E.L l d) i = false; rw [← HDD.out]; exact HGO.out), BB.out⟩
        case measure => simp [intOf]; omega
      case true =>
      have DK : Hid (Calls Tryz.prog 98 #[.slice (some ⟨g, go, none⟩) d.length k'] w6 fun e w' => ∃ g2 k2, e = .returned (.slice (some ⟨g2, 0, none⟩) d.length k2) ∧ w6.heap.size ≤ g2 ∧ w'.ownsRow w6.heap.size 4 1 (.slice (some ⟨g2, 0, none⟩) d.length k2) d.length (dd.map Value.bool) ∧ (∃ x, w'.cell? ⟨g2, i, none⟩ = some x) ∧ w'.frozen? ⟨g2, i, none⟩ = false ∧ Below w6.heap.size w6 w') := Lib.hid (by
        refine (cloneB_any (some ⟨g, go, none⟩) k' d.length dd w6 HDDL.out.symm N6.out.2 (by rw [HDDL.out, HDL.out]; exact pb)).mono ?_
        rintro e w' ⟨B2, k2, rfl, hown, hb⟩
        rcases own_form hown with ⟨_, h2, _⟩ | ⟨g2, cap, hv, hge, _, _, _, hcc, hff⟩
        · omega
        · injection hv with hv1 _ hv2
          subst hv1 hv2
          have hx : (dd.map Value.bool)[i]? = some (.bool (isD dd i)) := by
            rw [List.getElem?_map, List.getElem?_eq_getElem hidd]
            unfold isD
            rw [List.getD_eq_getElem?_getD, List.getElem?_eq_getElem hidd]; rfl
          have hcx : w'.cell? ⟨g2, i, none⟩ = some (.bool (isD dd i)) := by
            have := hcc i _ hx
            rwa [Nat.zero_add] at this
          exact ⟨g2, _, rfl, hge, hown, ⟨_, hcx⟩, hff i, hb⟩)
      obtain ⟨c0, c1, f0, f1⟩ := X6.out
      go_upto_region 14 with (go_at_call 98; ((with_reducible refine DK.out.mono ?_); rintro e w7 ⟨g2, k2, rfl, hge, hown, ⟨xx, cx⟩, fx, hb⟩; have HGE := Lib.hid hge; have HOW := Lib.hid hown; have HB7 := Lib.hid hb; clear hge hown hb c0 c1 f0 f1))
      clear cx fx
      have B8 : Hid (Below w6.heap.size w6 (w7.setCell ⟨g2, i, none⟩ (.bool true))) := Lib.hid (HB7.out.setCell (p := ⟨g2, i, none⟩) HGE.out _)
      have S8 : Hid (Sl (w7.setCell ⟨g2, i, none⟩ (.bool true)) (some ⟨g2, 0, none⟩) ((dd.set i true).map Value.bool)) := Lib.hid (by
        have h1 := (HOW.out.stored i (.bool true)).1
        rw [← List.map_set] at h1
        exact own_sl h1)
      have hh8 : g2 < w7.heap.size := (HOW.out.lt g2 rfl).2
      have A8 : Hid (Arcs (w7.setCell ⟨g2, i, none⟩ (.bool true)) X gl) := Lib.hid (HAX.out.below (HBY.out.trans (B8.out.mono HBY.out.size)) (Nat.le_refl _))
      clear hh8
      generalize w7.setCell ⟨g2, i, none⟩ (.bool true) = w8 at B8 S8 A8 ⊢
      have BA8 := Lib.hid (HBX.out.trans (B8.out.mono HBX.out.size))
      have G8 := Lib.hid (GG.out.later BA8.out)
      have L2 : Hid ((dd.set i true).length = d.length) := Lib.hid (by rw [List.length_set, HDDL.out])
      have SUB : Hid (∀ s ∈ sts out', R s) := Lib.hid (fun s hs => by
        obtain ⟨news, e, _, hpath⟩ := II.out.more
        rw [e] at hs
        rcases List.mem_append.1 hs with q | q
        · exact HP.out.old s q
        · rcases List.mem_cons.1 q with rfl | q
          · exact HP.out.new _ LPath.start
          · exact HP.out.new s (hpath s q))
      have TT : Hid ((sysOf E.ps).turn i = true) := Lib.hid TE.out.symm
      have GS1 : Hid (GS (sysOf E.ps) K (l, dd)) := Lib.hid (by
        have := HP.out.gs.rd HLN.out
        rw [HDD.out]; exact this)
      have PRE : Hid (AddPre E K R ⟨X, d2, gl, some ⟨g2, 0, none⟩, k2, dd.set i true⟩ out' v' w8) := Lib.hid (by
        refine ⟨G8.out, ⟨A8.out, S8.out⟩, ?_, II.out.nodup, SUB.out, fun s hs => HP.out.new s ?_⟩
        · have := GS1.out.turn hin TT.out HDB.out.symm
          show GS _ K (gl, dd.set i true)
          rw [HGL.out, HPP.out]; exact this
        · have h1 : goes (sysOf E.ps) (l, rd (sysOf E.ps) E.L l d) i = true := by rw [← HDD.out]; exact HGO.out
          refine path_join (LPath.start (S := sysOf E.ps) (L := E.L) (t := (l, d))) (List.mem_of_getElem? HI.out) h1 ?_
          have h2 : ((⟨X, d2, gl, some ⟨g2, 0, none⟩, k2, dd.set i true⟩ : Nw).st) = ((sysOf E.ps).nx i l, (rd (sysOf E.ps) E.L l d).set i true) := by
            show (gl, dd.set i true) = _
            rw [HGL.out, HDD.out, HPP.out]; rfl
          rw [h2] at hs
          exact hs)
      have DA : Hid (Calls Tryz.prog 92 #[.agg #[.slice X gl.length d2, .slice (some ⟨g2, 0, none⟩) d.length k2], .pointer (some ⟨E.bp, 0, none⟩), .pointer (some ⟨E.bl, 0, none⟩), .pointer (some ⟨E.bs, 0, none⟩), .pointer (some ⟨E.bo, 0, none⟩), .pointer (some ⟨E.ba, 0, none⟩)] w8 fun e w' => e = .returned (.tuple #[]) ∧ AddOut E K ⟨X, d2, gl, some ⟨g2, 0, none⟩, k2, dd.set i true⟩ out' v' w8 w') := Lib.hid (by
        have hu : und (sysOf E.ps) (dd.set i true) + 1 ≤ m := by
          have h1 := und_set TT.out HDB.out.symm (show i < (sysOf E.ps).n from hin) (GS1.out.len)
          have h2 : und (sysOf E.ps) dd = und (sysOf E.ps) d := by rw [HDD.out]; exact und_rd (by rw [HDL.out]; exact HLN.out)
          have h3 := HM.out
          have h4 : und (sysOf E.ps) d ≤ m := h3
          omega
        have := IH.out _ out' v' w8 PRE.out hu
        unfold AddCall Nw.val Nw.v0 Nw.v1 at this
        simp only [L2.out] at this
        exact this)
      have e8 : w8.cell? ⟨E.ba, 0, none⟩ = some (.func (.func 92) #[] #[.pointer (some ⟨E.bp, 0, none⟩), .pointer (some ⟨E.bl, 0, none⟩), .pointer (some ⟨E.bs, 0, none⟩), .pointer (some ⟨E.bo, 0, none⟩), .pointer (some ⟨E.ba, 0, none⟩)]) := cell_of_one G8.out.ha
      go_wp2_with (go_at_call 92; ((with_reducible refine DA.out.mono ?_); rintro e w9 ⟨rfl, hout⟩; have HOUT := Lib.hid hout; clear hout))
      go_roundw
      case rel =>
        obtain ⟨v2, out2, hg2, ha2, hn2, ⟨nw2, en2⟩, hp2⟩ := HOUT.out
        have hA1 := AA.out.trans NN.out (AK.ofBelow BA8.out)
        have hbn : w.heap.size < w8.heap.size := Nat.lt_of_lt_of_le XX.out.lt BA8.out.size
        refine ⟨j + 1, by omega, by go_num, v2, out2, hg2, ?_, hA1.trans NN.out ha2, NN.out.trans hn2 hA1.size, ?_, ?_, ?_⟩
        · exact (XX.out.below BA8.out XX.out.lt).ak ha2 (fun e => by have := lt_of_block HP.out.gi.ho; omega) (fun e => by have := HP.out.gi.hm.lt; omega) BB.out
        · obtain ⟨nw1, en1⟩ := MM.out
          exact ⟨nw1 ++ nw2, by rw [en2, en1]; simp⟩
        · have h1 : goes (sysOf E.ps) (l, rd (sysOf E.ps) E.L l d) i = true := by rw [← HDD.out]; exact HGO.out
          refine II.out.step HI.out h1 ?_
          have h2 : ((⟨X, d2, gl, some ⟨g2, 0, none⟩, k2, dd.set i true⟩ : Nw).st) = ((sysOf E.ps).nx i l, (rd (sysOf E.ps) E.L l d).set i true) := by
            show (gl, dd.set i true) = _
            rw [HGL.out, HDD.out, HPP.out]; rfl
          rw [h2] at hp2
          exact hp2
        · rcases hn2 with q | ⟨g3, q, hg3⟩
          · rw [q]; exact BB.out
          · rw [q]; intro e; have := Option.some.inj e; omega
      case measure => simp [intOf]; omega
    · obtain rfl : j = nL := by omega
      go_wp2
      go_end0
      have HX := II.out.last HNL.out
      obtain ⟨news, e⟩ := MM.out
      exact ⟨rfl, v', out', GG.out, AA.out, NN.out, ⟨_, e⟩, HX⟩

end Go.Proofs.YtpdfmfkoopdfgaaGreatDoor
