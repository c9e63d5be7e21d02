/- LGrown. -/
import Derived.Test.YtpdfmfkoopdfgaaGreatDoorB26
import Derived.Laws.EntriesVeiled
import Derived.Carry
set_option linter.unusedVariables false
set_option linter.unusedSimpArgs false
namespace Go.Proofs.YtpdfmfkoopdfgaaGreatDoor
set_option maxRecDepth 100000
open Go.RowKit Aid Gr Hs LinP

theorem add_any (E : Env) (hE : E.Ok) (hz : 0 < E.base) (K N : Nat) (hK : K ≤ 900) (hN : N ≤ 1000000000000) (R : St (List Arc) → Prop) (hR : ∀ l : List (St (List Arc)), l.Nodup → (∀ s ∈ l, R s) → l.length ≤ N) :
    ∀ (m : Nat) (n : Nw) (out : List Nw) (v : Value) (w : World), AddPre E K R n out v w → und (sysOf E.ps) n.d ≤ m → AddCall E K n out v w := by
  intro m
  induction m with
  | zero => exact fun n out v w hp hm => add_step E hE hz K N hK hN R hR 0 (fun n out v w _ h => by omega) n out v w hp hm
  | succ m ih => exact fun n out v w hp hm => add_step E hE hz K N hK hN R hR (m + 1) (fun n out v w hp h => ih n out v w hp (by omega)) n out v w hp hm
/-- The states behind some that are kept. -/
structure GrInv (S : LinP.Sys (List Arc)) (L : List Nat) (fr : List (St (List Arc))) (out : List (St (List Arc))) : Prop where
  base : ∀ s ∈ fr, (s.1, rd S L s.1 s.2) ∈ out
  closed : ∀ s ∈ out, closedAt S L out s
  reach : ∀ s ∈ out, ∃ t ∈ fr, LPath S L t s
  nodup : out.Nodup
theorem GrInv.grown {S : LinP.Sys (List Arc)} {L : List Nat} {fr out : List (St (List Arc))} (h : GrInv S L fr out) : Grown S L fr out :=
  ⟨h.base, fun s hs i hi h1 h2 h3 => h.closed s hs i hi (by unfold goes; rw [h1, h2, h3]; rfl), h.reach, h.nodup⟩
theorem GrInv.step {S : LinP.Sys (List Arc)} {L : List Nat} {fr out out' : List (St (List Arc))} {n : St (List Arc)} (h : GrInv S L fr out) (hp : AddPost S L out n out') : GrInv S L (fr ++ [n]) out' := by
  obtain ⟨news, e, hc, hpa⟩ := hp.more
  have sub : ∀ s, s ∈ out → s ∈ out' := fun s hs => by rw [e]; exact List.mem_append_left _ hs
  refine ⟨fun s hs => ?_, fun s hs => ?_, fun s hs => ?_, hp.nodup⟩
  · rcases List.mem_append.1 hs with q | q
    · exact sub _ (h.base s q)
    · rw [List.mem_singleton] at q; subst q; exact hp.has
  · rw [e] at hs
    rcases List.mem_append.1 hs with q | q
    · exact fun i hi hg => sub _ (h.closed s q i hi hg)
    · exact hc s q
  · rw [e] at hs
    rcases List.mem_append.1 hs with q | q
    · obtain ⟨t, ht, hp2⟩ := h.reach s q
      exact ⟨t, List.mem_append_left _ ht, hp2⟩
    · exact ⟨n, by simp, hpa s q⟩
theorem GrInv.nil (S : LinP.Sys (List Arc)) (L : List Nat) : GrInv S L [] [] := ⟨by simp, by simp, by simp, by simp⟩
theorem tab_pos {w : World} (h : Tab w) : 0 < w.heap.size := by
  unfold Tab Lib.TabIs World.var? at h
  rw [gPow] at h
  simp only [Option.bind_some] at h
  rcases Nat.eq_zero_or_pos w.heap.size with q | q
  · rw [Array.getElem?_eq_none (by omega)] at h; simp at h
  · exact q
def env0 (h : Nat) (P : Option Addr) (cp : Nat) (ps : List Pt) (V : Option Addr) (cv : Nat) (L : List Nat) : Env :=
  ⟨h, h, h + 1, h + 1 + 1 + 1, h + 1 + 1 + 1 + 1, h + 1 + 1 + 1 + 1 + 1, h + 1 + 1, P, cp, ps, V, cv, L⟩
theorem env0_ok {w : World} {P : Option Addr} {cp : Nat} {ps : List Pt} {V : Option Addr} {cv : Nat} {L : List Nat} (hP : Sl w P (Hs.flat ps)) (hV : Sl w V (nats L)) (hL : ∀ i ∈ L, i < ps.length) (hfine : ∀ p ∈ ps, (opOf p).Fine) (hpn : ps.length ≤ 1000000) (hLn : L.length ≤ 1000000) : (env0 w.heap.size P cp ps V cv L).Ok := by
  refine ⟨Nat.le_refl _, ?_, ?_, ?_, ?_, ?_, hL, hfine, hpn, hLn, fun q a ha => ?_, fun q a ha => ?_⟩
  · show w.heap.size ≤ w.heap.size + 1; omega
  · show w.heap.size ≤ w.heap.size + 1 + 1 + 1; omega
  · show w.heap.size ≤ w.heap.size + 1 + 1 + 1 + 1; omega
  · show w.heap.size ≤ w.heap.size + 1 + 1 + 1 + 1 + 1; omega
  · show w.heap.size ≤ w.heap.size + 1 + 1; omega
  · have q' : 0 < ps.length := q
    have ha' : P = some a := ha
    obtain ⟨b, off, hA, hc⟩ := hP (by rw [Hs.flat_length]; omega)
    rw [ha'] at hA; cases hA
    have hl : 0 < (Hs.flat ps).length := by rw [Hs.flat_length]; omega
    exact World.block_lt_of_cell? _ _ (hc 0 _ (List.getElem?_eq_getElem hl))
  · have q' : 0 < L.length := q
    have ha' : V = some a := ha
    have hl : 0 < (nats L).length := by unfold nats; rw [List.length_map]; exact q'
    obtain ⟨b, off, hA, hc⟩ := hV hl
    rw [ha'] at hA; cases hA
    exact World.block_lt_of_cell? _ _ (hc 0 _ (List.getElem?_eq_getElem hl))
abbrev W6 (w : World) (P : Option Addr) (cp np : Nat) (V : Option Addr) (cv nv : Nat) : World := (((((w.alloc (.cells #[.slice P np cp] 72)).alloc (.cells #[.slice V nv cv] 33)).alloc (.map #[] 0)).alloc (.cells #[.map (some (w.heap.size + 1 + 1))] 136)).alloc (.cells #[.slice none 0 0] 63)).alloc (.cells #[.func (.func 92) #[] #[.pointer (some ⟨w.heap.size, 0, none⟩), .pointer (some ⟨w.heap.size + 1, 0, none⟩), .pointer (some ⟨w.heap.size + 1 + 1 + 1, 0, none⟩), .pointer (some ⟨w.heap.size + 1 + 1 + 1 + 1, 0, none⟩), .pointer (some ⟨w.heap.size + 1 + 1 + 1 + 1 + 1, 0, none⟩)]] 137)
theorem gi_start {w : World} {P : Option Addr} {cp : Nat} {ps : List Pt} {V : Option Addr} {cv : Nat} {L : List Nat} (hT : Tab w) (hP : Sl w P (Hs.flat ps)) (hV : Sl w V (nats L)) :
    GI (env0 w.heap.size P cp ps V cv L) (W6 w P cp ps.length V cv L.length) (.slice none 0 0) [] ∧ Below w.heap.size w (W6 w P cp ps.length V cv L.length) := by
  have b1 : ∀ (W : World) (o : Obj), Below W.heap.size W (W.alloc o) := fun W o => (Below.refl _ _).alloc (Nat.le_refl _) o
  have n1 : ∀ (W : World) (o : Obj), (W.alloc o).heap[W.heap.size]? = some o := fun W o => heap_alloc_new W o
  have hb : Below w.heap.size w (W6 w P cp ps.length V cv L.length) := (((((b1 _ _).alloc (by simp) _).alloc (by simp; omega) _).alloc (by simp; omega) _).alloc (by simp; omega) _).alloc (by simp; omega) _
  have k1 := n1 w (.cells #[.slice P ps.length cp] 72)
  have k2 := n1 (w.alloc (.cells #[.slice P ps.length cp] 72)) (.cells #[.slice V L.length cv] 33)
  have k4 := n1 (((w.alloc (.cells #[.slice P ps.length cp] 72)).alloc (.cells #[.slice V L.length cv] 33)).alloc (.map #[] 0)) (.cells #[.map (some (w.heap.size + 1 + 1))] 136)
  have k5 := n1 ((((w.alloc (.cells #[.slice P ps.length cp] 72)).alloc (.cells #[.slice V L.length cv] 33)).alloc (.map #[] 0)).alloc (.cells #[.map (some (w.heap.size + 1 + 1))] 136)) (.cells #[.slice none 0 0] 63)
  have k6 := n1 (((((w.alloc (.cells #[.slice P ps.length cp] 72)).alloc (.cells #[.slice V L.length cv] 33)).alloc (.map #[] 0)).alloc (.cells #[.map (some (w.heap.size + 1 + 1))] 136)).alloc (.cells #[.slice none 0 0] 63)) (.cells #[(env0 w.heap.size P cp ps V cv L).fn] 137)
  have m3 := World.ownsMap_made ((w.alloc (.cells #[.slice P ps.length cp] 72)).alloc (.cells #[.slice V L.length cv] 33)) Tryz.prog 9 (unitElem (H := Unit))
  simp only [World.size_alloc] at k2 k4 k5 k6 m3
  refine ⟨⟨?_, ?_, ?_, ?_, ?_, ?_, World.ownsRow_nil _ _ _ _, by simp, hP.below hb (Nat.le_refl _), hV.below hb (Nat.le_refl _), hT.below hb (Nat.le_refl _), hb.size, fun g hg => by (cases hg), fun n hn => by cases hn⟩, hb⟩
  · exact heapL (heapL (heapL (heapL (heapL k1 (b1 _ _)) (b1 _ _)) (b1 _ _)) (b1 _ _)) (b1 _ _)
  · exact heapL (heapL (heapL (heapL k2 (b1 _ _)) (b1 _ _)) (b1 _ _)) (b1 _ _)
  · exact heapL (heapL k4 (b1 _ _)) (b1 _ _)
  · exact heapL k5 (b1 _ _)
  · exact k6
  · exact ((m3.alloc _).alloc _).alloc _
set_option maxHeartbeats 8000000 in
theorem grown_any (P : Option Addr) (cp : Nat) (ps : List Pt) (V : Option Addr) (cv : Nat) (L : List Nat) (F : Option Addr) (cf nf np nv : Nat) (fr : List Nw) (w : World) (K N : Nat) (hK : K ≤ 900) (hN : N ≤ 1000000000000) (R : St (List Arc) → Prop) (hR : ∀ l : List (St (List Arc)), l.Nodup → (∀ s ∈ l, R s) → l.length ≤ N)
    (hnf : nf = fr.length) (hnp : np = ps.length) (hnv : nv = L.length) (hT : Tab w) (hP : Sl w P (Hs.flat ps)) (hV : Sl w V (nats L)) (hF : Sl w F (nflat fr)) (hok : ∀ n ∈ fr, NwOk w n) (hgs : ∀ s ∈ sts fr, GS (sysOf ps) K s) (hpath : ∀ t ∈ sts fr, ∀ s, LPath (sysOf ps) L t s → R s)
    (hL : ∀ i ∈ L, i < ps.length) (hfine : ∀ p ∈ ps, (opOf p).Fine) (hpn : ps.length ≤ 1000000) (hLn : L.length ≤ 1000000) (hfn : fr.length ≤ 1000000000000) :
    Calls Tryz.prog 64 #[.slice P np cp, .slice V nv cv, .slice F nf cf] w fun e w' => ∃ v out, e = .returned v ∧ w'.ownsRow w.heap.size 66 2 v out.length (nflat out) ∧ RowAll IsSl v w' ∧ (∀ n ∈ out, NwOk w' n) ∧ Grown (sysOf ps) L (sts fr) (sts out) ∧ Below w.heap.size w w' ∧ (∀ n ∈ out, ∀ a, n.B = some a → w.heap.size ≤ a.block) := by
  have nfb : nf ≤ 1000000000000 := by omega
  have HNF := Lib.hid hnf
  have HNP := Lib.hid hnp
  have HNV := Lib.hid hnv
  have HT := Lib.hid hT
  have HPP := Lib.hid hP
  have HVV := Lib.hid hV
  have HFF := Lib.hid hF
  have HOK := Lib.hid hok
  have HGS := Lib.hid hgs
  have HPA := Lib.hid hpath
  have HLL := Lib.hid hL
  have HFI := Lib.hid hfine
  have HPN := Lib.hid hpn
  have HLN := Lib.hid hLn
  have HRR := Lib.hid hR
  clear hnf hnp hnv hT hP hV hF hok hgs hpath hL hfine hpn hLn hfn hR
  have hmm := @run_makeMap Tryz.prog
  go_enter Tryz.func64, Tryz.ntmps64
  go_wp2
  have G0 : Hid (GI (env0 w.heap.size P cp ps V cv L) (W6 w P cp np V cv nv) (.slice none 0 0) [] ∧ Below w.heap.size w (W6 w P cp np V cv nv)) := Lib.hid (by
    rw [HNP.out, HNV.out]; exact gi_start HT.out HPP.out HVV.out)
  have EO : Hid ((env0 w.heap.size P cp ps V cv L).Ok) := Lib.hid (env0_ok HPP.out HVV.out HLL.out HFI.out HPN.out HLN.out)
  have Z0 : Hid (0 < (env0 w.heap.size P cp ps V cv L).base) := Lib.hid (tab_pos HT.out)
  have AD : Hid (∀ (n : Nw) (out : List Nw) (v : Value) (W : World), AddPre (env0 w.heap.size P cp ps V cv L) K R n out v W → AddCall (env0 w.heap.size P cp ps V cv L) K n out v W) := Lib.hid fun n out v W hp => add_any _ EO.out Z0.out K N hK hN R HRR.out _ n out v W hp (Nat.le_refl _)
  obtain ⟨E, hE⟩ : ∃ E, E = env0 w.heap.size P cp ps V cv L := ⟨_, rfl⟩
  rw [← hE] at G0 EO Z0 AD
  have HE := Lib.hid hE
  clear hE
  go_loopw [16] (fun x wr => ∃ j : Nat, j ≤ nf ∧ x = .int .i64 j ∧ ∃ v out, GI E wr v out ∧ GrInv (sysOf ps) L (sts (fr.take j)) (sts out) ∧ Below w.heap.size w wr) (fun x _ => nf - (intOf x).toNat)
  case atStart => exact ⟨0, Nat.zero_le _, rfl, _, _, G0.out.1, GrInv.nil _ _, G0.out.2⟩
  case round =>
    clear G0
    obtain ⟨j, hj, rfl, v, out, hg, hinv, hb⟩ := hrel
    have GG := Lib.hid hg
    have II := Lib.hid hinv
    have HB := Lib.hid hb
    clear hg hinv hb
    obtain ⟨w0, hw0⟩ : ∃ w0, w0 = wr := ⟨_, rfl⟩
    subst hw0
    by_cases hlt : j < nf
    · have j0 : (0 : Int) ≤ (j : Int) := by omega
      have j1 : (j : Int) < (nf : Int) := by omega
      have n3 : IntKind.i64.wrap ((j : Int) + 1) = (j : Int) + 1 := by rw [IntKind.wrap_i64] <;> omega
      obtain ⟨n, hn⟩ : ∃ n, fr[j]? = some n := ⟨fr[j]'(by rw [← HNF.out]; exact hlt), List.getElem?_eq_getElem _⟩
      have HN := Lib.hid hn
      obtain ⟨fb, fo, hFe, hfc⟩ := (HFF.out.below HB.out (Nat.le_refl _)) (by rw [nflat_length, ← HNF.out]; omega)
      obtain ⟨g1, g2⟩ := nflat_get fr j n hn
      have c1 := hfc _ _ g1
      have c2 := hfc _ _ g2
      rw [← Nat.add_assoc] at c2
      obtain ⟨A', c', l', B', k', d'⟩ := n
      change w0.cell? _ = some (.slice A' l'.length c') at c1
      change w0.cell? _ = some (.slice B' d'.length k') at c2
      subst hFe
      clear hfc g1 g2

      have ST : Hid (sts (fr.take (j + 1)) = sts (fr.take j) ++ [(Nw.mk A' c' l' B' k' d').st]) := Lib.hid (by
        obtain ⟨hl1, he1⟩ := List.getElem?_eq_some_iff.1 HN.out
        rw [List.take_succ_eq_append_getElem hl1, sts_append, he1]; rfl)
      have hmem : (Nw.mk A' c' l' B' k' d') ∈ fr := List.mem_of_getElem? HN.out
      have hst : (Nw.mk A' c' l' B' k' d').st ∈ sts fr := List.mem_map.2 ⟨_, hmem, rfl⟩
      have NOK := Lib.hid ((HOK.out _ hmem).below HB.out (Nat.le_refl _))
      have HST := Lib.hid hst
      clear hmem hst
      have B1 : Hid (Below w0.heap.size w0 (w0.alloc (.cells #[.slice A' l'.length c', .slice B' d'.length k'] 66))) := Lib.hid ((Below.refl _ _).alloc (Nat.le_refl _) _)
      have DA : Hid (AddCall E K (Nw.mk A' c' l' B' k' d') out v (w0.alloc (.cells #[.slice A' l'.length c', .slice B' d'.length k'] 66))) := Lib.hid (AD.out (Nw.mk A' c' l' B' k' d') out v _ (by
        have e1 : E.ps = ps := by rw [HE.out]; rfl
        have e2 : E.L = L := by rw [HE.out]; rfl
        refine ⟨GG.out.later B1.out, NOK.out.below B1.out (Nat.le_refl _), by rw [e1]; exact HGS.out _ HST.out, II.out.nodup, fun s hs => ?_, by rw [e1, e2]; exact HPA.out _ HST.out⟩
        obtain ⟨t, ht, hp⟩ := II.out.reach s hs
        refine HPA.out t ?_ s hp
        obtain ⟨x, hx, rfl⟩ := List.mem_map.1 ht
        exact List.mem_map.2 ⟨x, List.mem_of_mem_take hx, rfl⟩))
      have e8 : (w0.alloc (.cells #[.slice A' l'.length c', .slice B' d'.length k'] 66)).cell? ⟨w.heap.size + 1 + 1 + 1 + 1 + 1, 0, none⟩ = some (.func (.func 92) #[] #[.pointer (some ⟨w.heap.size, 0, none⟩), .pointer (some ⟨w.heap.size + 1, 0, none⟩), .pointer (some ⟨w.heap.size + 1 + 1 + 1, 0, none⟩), .pointer (some ⟨w.heap.size + 1 + 1 + 1 + 1, 0, none⟩), .pointer (some ⟨w.heap.size + 1 + 1 + 1 + 1 + 1, 0, none⟩)]) := by
        have := cell_of_one (GG.out.later B1.out).ha
        rw [HE.out] at this
        exact this
      have DA2 : Hid (Calls Tryz.prog 92 #[.agg #[.slice A' l'.length c', .slice B' d'.length k'], .pointer (some ⟨w.heap.size, 0, none⟩), .pointer (some ⟨w.heap.size + 1, 0, none⟩), .pointer (some ⟨w.heap.size + 1 + 1 + 1, 0, none⟩), .pointer (some ⟨w.heap.size + 1 + 1 + 1 + 1, 0, none⟩), .pointer (some ⟨w.heap.size + 1 + 1 + 1 + 1 + 1, 0, none⟩)] (w0.alloc (.cells #[.slice A' l'.length c', .slice B' d'.length k'] 66)) fun e w' => e = .returned (.tuple #[]) ∧ AddOut E K (Nw.mk A' c' l' B' k' d') out v (w0.alloc (.cells #[.slice A' l'.length c', .slice B' d'.length k'] 66)) w') := Lib.hid (by
        have := DA.out
        unfold AddCall at this
        have q1 : E.bp = w.heap.size := by rw [HE.out]; rfl
        have q2 : E.bl = w.heap.size + 1 := by rw [HE.out]; rfl
        have q3 : E.bs = w.heap.size + 1 + 1 + 1 := by rw [HE.out]; rfl
        have q4 : E.bo = w.heap.size + 1 + 1 + 1 + 1 := by rw [HE.out]; rfl
        have q5 : E.ba = w.heap.size + 1 + 1 + 1 + 1 + 1 := by rw [HE.out]; rfl
        rw [q1, q2, q3, q4, q5] at this
        exact this)
      clear DA
      go_wp2_with (go_at_call 92; ((with_reducible refine DA2.out.mono ?_); rintro e w9 ⟨rfl, hout⟩; have HOUT := Lib.hid hout; clear hout))
      go_roundw
      case rel =>
        obtain ⟨v2, out2, hg2, ha2, _, _, hp2⟩ := HOUT.out
        have e1 : E.ps = ps := by rw [HE.out]; rfl
        have e2 : E.L = L := by rw [HE.out]; rfl
        rw [e1, e2] at hp2
        refine ⟨j + 1, by omega, by go_num, v2, out2, hg2, ?_, ?_⟩
        · rw [ST.out]; exact II.out.step hp2
        · have hb0 : E.base = w.heap.size := by rw [HE.out]; rfl
          have := ha2.below (B := w.heap.size) (Nat.le_trans HB.out.size B1.out.size) (by rw [← hb0]; exact EO.out.h4) (by rw [← hb0]; exact EO.out.h6) (fun k hk => by rw [← hb0]; exact (GG.out.row k hk).1)
          exact (HB.out.trans (B1.out.mono HB.out.size)).trans this
      case measure => simp [intOf]; omega
    · obtain rfl : j = nf := by omega
      have o8 : w0.cell? ⟨w.heap.size + 1 + 1 + 1 + 1, 0, none⟩ = some v := by
        have := cell_of_one GG.out.ho
        rw [HE.out] at this
        exact this
      go_wp2
      go_ret
      have hb0 : E.base = w.heap.size := by rw [HE.out]; rfl
      have hgr := II.out.grown
      rw [List.take_of_length_le (by rw [← HNF.out]; omega)] at hgr
      exact ⟨v, out, rfl, by rw [← hb0]; exact GG.out.own, GG.out.rsl, GG.out.ok, hgr, HB.out, fun n hn a ha => by have := GG.out.nb n hn a ha; rw [hb0] at this; exact this⟩
end Go.Proofs.YtpdfmfkoopdfgaaGreatDoor
