/- LOrd. -/
import Derived.Test.YtpdfmfkoopdfgaaGreatDoorB38
import Derived.Test.YtpdfmfkoopdfgaaGreatDoorB18
import Derived.Test.YtpdfmfkoopdfgaaGreatDoorB36
import Derived.Test.YtpdfmfkoopdfgaaGreatDoorB24
import Derived.Deep.RegionHeld3
import Derived.Deep.QuietTactic
import Derived.BigQuiet
set_option linter.unusedVariables false
set_option linter.unusedSimpArgs false
namespace Go.Proofs.YtpdfmfkoopdfgaaGreatDoor
set_option maxRecDepth 100000
open Go.RowKit Aid Gr Hs LinP HeapP
/-! ### plain words -/
/-- What is so of one era's points. -/
structure OSys (ps : List Pt) : Prop where
  good : (sysOf ps).Good
  eras : ∀ i j, i < ps.length → j < ps.length → (ptAt ps i).era = (ptAt ps j).era
  fine : ∀ p ∈ ps, (opOf p).Fine
  small : ps.length ≤ 100000
  some' : 0 < ps.length
theorem ready_iff {ps : List Pt} (h : OSys ps) {d : List Bool} {i : Nat} (hi : i < ps.length) : readyL ps d i = true ↔ Ready (sysOf ps) d i := by
  constructor
  · intro hr k hk hd hm hki h0 h1
    exact readyL_of hr k hk ⟨hd, hm, hki, h.eras k i hk hi, h0, h1⟩
  · intro hr
    exact readyL_t fun k hk hb => hr k hk hb.1 hb.2.1 hb.2.2.1 hb.2.2.2.2.1 hb.2.2.2.2.2
def cntF (e : List Bool) : Nat := e.countP fun b => !b
theorem cntF_set : ∀ {e : List Bool} {i : Nat}, i < e.length → isD e i = false → cntF (e.set i true) + 1 = cntF e
  | [], _, h, _ => by simp at h
  | b :: e, 0, _, h => by
    have : b = false := by simpa [isD] using h
    subst this
    unfold cntF
    simp
  | b :: e, i + 1, h, hd => by
    have ih := cntF_set (e := e) (i := i) (by simpa using h) (by unfold isD at hd ⊢; simpa using hd)
    unfold cntF at ih ⊢
    rw [List.set_cons_succ, List.countP_cons, List.countP_cons]
    omega
/-- How many of a row's cells are false. -/
def cntM (W : World) (g : Nat) : Nat → Nat
  | 0 => 0
  | n + 1 => cntM W g n + (match W.cell? ⟨g, n, none⟩ with | some (.bool false) => 1 | _ => 0)
theorem cntM_eq {W : World} {g : Nat} {e : List Bool} (h : ∀ j b, e[j]? = some b → W.cell? ⟨g, j, none⟩ = some (.bool b)) : ∀ n, n ≤ e.length → cntM W g n = cntF (e.take n)
  | 0, _ => by simp [cntM, cntF]
  | n + 1, hn => by
    rw [cntM, cntM_eq h n (by omega), List.take_succ_eq_append_getElem (by omega), h n e[n] (List.getElem?_eq_getElem _)]
    unfold cntF
    rw [List.countP_append, List.countP_singleton]
    cases e[n] <;> rfl
/-- One question is told, or may not be told. -/
def ToldAt (S : LinP.Sys (List Arc)) (g : List Arc) (e : List Bool) (j : Nat) : Prop := isD e j = false → S.turn j = false → Ready S e j → S.fit j g = false
def boolOf : Value → Bool
  | .bool b => b
  | _ => false
/-- Where the first loop stands. -/
structure OA (w : World) (ps : List Pt) (d : List Bool) (g : List Arc) (gD cD n : Nat) (e : List Bool) (wr : World) : Prop where
  len : e.length = ps.length
  ext : Ext (sysOf ps) d e
  stp : LinP.Steps (sysOf ps) g d g e
  own : wr.ownsRow w.heap.size 4 1 (.slice (some ⟨gD, 0, none⟩) n cD) n (e.map Value.bool)
  bel : Below w.heap.size w wr
theorem OA.cell {w : World} {ps : List Pt} {d : List Bool} {g : List Arc} {gD cD n : Nat} {e : List Bool} {wr : World} (h : OA w ps d g gD cD n e wr) {j : Nat} {b : Bool} (hj : e[j]? = some b) : wr.cell? ⟨gD, j, none⟩ = some (.bool b) := by
  have := World.ownsRow.cells h.own (g := gD) rfl j (.bool b) (by rw [List.getElem?_map, hj]; rfl)
  rw [addr_add] at this; simpa using this
theorem OA.cnt {w : World} {ps : List Pt} {d : List Bool} {g : List Arc} {gD cD n : Nat} {e : List Bool} {wr : World} (h : OA w ps d g gD cD n e wr) (hn : n = ps.length) : cntM wr gD n = cntF e := by
  rw [cntM_eq (fun j b hj => h.cell hj) n (by rw [h.len, hn]; exact Nat.le_refl _), List.take_of_length_le (by rw [h.len, hn]; exact Nat.le_refl _)]
theorem OA.later {w : World} {ps : List Pt} {d : List Bool} {g : List Arc} {gD cD n : Nat} {e : List Bool} {wr w' : World} (h : OA w ps d g gD cD n e wr) (hb : Below wr.heap.size wr w') : OA w ps d g gD cD n e w' :=
  ⟨h.len, h.ext, h.stp, own_belowR h.own hb, h.bel.trans (hb.mono h.bel.size)⟩
theorem OA.tell {w : World} {ps : List Pt} {d : List Bool} {g : List Arc} {gD cD n : Nat} {e : List Bool} {wr : World} (h : OA w ps d g gD cD n e wr) (hS : OSys ps) {i : Nat} (hi : i < ps.length) (hd : isD e i = false) (ht : (sysOf ps).turn i = false) (hr : Ready (sysOf ps) e i) (hf : (sysOf ps).fit i g = true) (hg : w.heap.size ≤ gD) :
    OA w ps d g gD cD n (e.set i true) (wr.setCell ⟨gD, i, none⟩ (.bool true)) := by
  obtain ⟨h1, h2⟩ := read_one (S := sysOf ps) hS.good (g := g) (d := e) (i := i) h.len hi hd ht hr hf
  refine ⟨by rw [List.length_set]; exact h.len, h.ext.trans h1, h.stp.trans h2, ?_, h.bel.setCell (p := ⟨gD, i, none⟩) hg _⟩
  rw [List.map_set]
  exact own_set h.own i _
/-- What orders is handed. -/
structure OIn (w : World) (P D G F : Option Addr) (ps : List Pt) (d : List Bool) (g : List Arc) (xs : List GSl) (R : List Arc → Prop) : Prop where
  sys : OSys ps
  pts : Sl w P (Hs.flat ps)
  dn : Sl w D (d.map Value.bool)
  dl : d.length = ps.length
  gr : Arcs w G g
  rises : Rises g
  few : g.length + und (sysOf ps) d ≤ 900
  fd : GRd w F xs
  srt : (xs.map GSl.l).Pairwise LexLt
  lim : ∀ l : List (List Arc), l.Nodup → (∀ x ∈ l, R x) → l.length ≤ 1000000000000
  rx : ∀ x ∈ xs, R x.l
  rr : ∀ g', Reach (sysOf ps) g d g' → R g'
/-- What it hands back. -/
def OOut (ps : List Pt) (d : List Bool) (g : List Arc) (xs : List GSl) (w : World) (e : Ending) (w' : World) : Prop :=
  ∃ B f ys, e = .returned (.slice B ys.length f) ∧ GRd w' B ys ∧ (ys.map GSl.l).Pairwise LexLt ∧ (∀ g', g' ∈ ys.map GSl.l ↔ g' ∈ xs.map GSl.l ∨ Reach (sysOf ps) g d g') ∧ Below w.heap.size w w'
/-- orders serves all calls with at most u turners undone. -/
def OSays (u : Nat) : Prop := ∀ (P D G F : Option Addr) (pc dc gc fc n m k f : Nat) (ps : List Pt) (d : List Bool) (g : List Arc) (xs : List GSl) (R : List Arc → Prop) (w : World), n = ps.length → m = ps.length → k = g.length → f = xs.length → und (sysOf ps) d ≤ u → OIn w P D G F ps d g xs R →
  Calls Tryz.prog 30 #[.slice P n pc, .slice D m dc, .slice G k gc, .slice F f fc] w (OOut ps d g xs w)
theorem own_emptyAt (w : World) (n : Nat) (h : w.heap.size = n) : (w.alloc (.cells #[] 4)).ownsRow n 4 1 (.slice (some ⟨n, 0, none⟩) 0 0) 0 [] := by subst h; exact own_emptyB w
/-- All that must be among the first i points are done. -/
def allB (ps : List Pt) (e : List Bool) : Nat → Bool
  | 0 => true
  | i + 1 => allB ps e i && (isD e i || !(ptAt ps i).must)
theorem allB_iff (ps : List Pt) (e : List Bool) : ∀ i, allB ps e i = true ↔ ∀ j, j < i → (ptAt ps j).must = true → isD e j = true
  | 0 => by simp [allB]
  | i + 1 => by
    rw [allB, Bool.and_eq_true, allB_iff ps e i]
    constructor
    · rintro ⟨h1, h2⟩ j hj hm
      rcases Nat.lt_or_ge j i with r | r
      · exact h1 j r hm
      · obtain rfl : j = i := by omega
        rw [hm] at h2; simpa using h2
    · intro h
      refine ⟨fun j hj hm => h j (by omega) hm, ?_⟩
      cases hm : (ptAt ps i).must
      · simp
      · rw [h i (by omega) hm]; rfl
theorem allB_full {ps : List Pt} {e : List Bool} {n : Nat} (hn : n = ps.length) : allB ps e n = true ↔ Full (sysOf ps) e := by
  subst hn
  rw [allB_iff]
  exact ⟨fun h i hi hm => h i hi hm, fun h i hi hm => h i hi hm⟩
theorem und_ext {ps : List Pt} {d e : List Bool} (h : Ext (sysOf ps) d e) : und (sysOf ps) e = und (sysOf ps) d := undL_same (fun i ht => by
  cases hd : isD d i
  · cases he : isD e i
    · rfl
    · have := h.ask i he hd
      rw [ht] at this; cases this
  · exact h.more i hd) _
/-- The turners that may stand next. -/
def Next (ps : List Pt) (g : List Arc) (e : List Bool) (j : Nat) : Prop := (sysOf ps).turn j = true ∧ isD e j = false ∧ Ready (sysOf ps) e j ∧ (sysOf ps).fit j g = true
/-- What is found behind the first i points. -/
structure Acc (ps : List Pt) (g : List Arc) (e : List Bool) (base : List (List Arc)) (i : Nat) (L : List (List Arc)) : Prop where
  srt : L.Pairwise LexLt
  mem : ∀ g', g' ∈ L ↔ g' ∈ base ∨ ∃ j, j < i ∧ Next ps g e j ∧ Reach (sysOf ps) ((sysOf ps).nx j g) (e.set j true) g'
theorem Acc.start {ps : List Pt} {g : List Arc} {e : List Bool} {base : List (List Arc)} (h : base.Pairwise LexLt) : Acc ps g e base 0 base := ⟨h, fun g' => ⟨.inl, fun q => by
  rcases q with q | ⟨j, hj, _⟩
  · exact q
  · omega⟩⟩
theorem Acc.skip {ps : List Pt} {g : List Arc} {e : List Bool} {base : List (List Arc)} {i : Nat} {L : List (List Arc)} (h : Acc ps g e base i L) (hn : ¬ Next ps g e i) : Acc ps g e base (i + 1) L := ⟨h.srt, fun g' => by
  rw [h.mem g']
  constructor
  · rintro (q | ⟨j, hj, q⟩)
    · exact .inl q
    · exact .inr ⟨j, by omega, q⟩
  · rintro (q | ⟨j, hj, q1, q2⟩)
    · exact .inl q
    · refine .inr ⟨j, ?_, q1, q2⟩
      rcases Nat.lt_or_ge j i with r | r
      · exact r
      · obtain rfl : j = i := by omega
        exact absurd q1 hn⟩
theorem Acc.next {ps : List Pt} {g : List Arc} {e : List Bool} {base : List (List Arc)} {i : Nat} {L M : List (List Arc)} (h : Acc ps g e base i L) (hn : Next ps g e i) (hs : M.Pairwise LexLt) (hm : ∀ g', g' ∈ M ↔ g' ∈ L ∨ Reach (sysOf ps) ((sysOf ps).nx i g) (e.set i true) g') : Acc ps g e base (i + 1) M := ⟨hs, fun g' => by
  rw [hm g', h.mem g']
  constructor
  · rintro ((q | ⟨j, hj, q⟩) | q)
    · exact .inl q
    · exact .inr ⟨j, by omega, q⟩
    · exact .inr ⟨i, by omega, hn, q⟩
  · rintro (q | ⟨j, hj, q1, q2⟩)
    · exact .inl (.inl q)
    · rcases Nat.lt_or_ge j i with r | r
      · exact .inl (.inr ⟨j, r, q1, q2⟩)
      · obtain rfl : j = i := by omega
        exact .inr q2⟩
theorem Acc.fin {ps : List Pt} {g : List Arc} {d e : List Bool} {xs base : List (List Arc)} {n : Nat} {L : List (List Arc)} (hn : n = ps.length) (h : Acc ps g e base n L) (hS : (sysOf ps).Good) (hd : d.length = ps.length) (hx : Ext (sysOf ps) d e) (hs : LinP.Steps (sysOf ps) g d g e) (ht : ToldAll (sysOf ps) g e) (hb : ∀ g', g' ∈ base ↔ g' ∈ xs ∨ (Full (sysOf ps) e ∧ g' = g)) : ∀ g', g' ∈ L ↔ g' ∈ xs ∨ Reach (sysOf ps) g d g' := fun g' => by
  rw [h.mem g', hb g', reach_read (S := sysOf ps) hS hd hx hs, reach_split ht]
  constructor
  · rintro ((q | q) | ⟨j, hj, ⟨q1, q2, q3, q4⟩, q5⟩)
    · exact .inl q
    · exact .inr (.inl q)
    · exact .inr (.inr ⟨j, by rw [hn] at hj; exact hj, q1, q2, q3, q4, q5⟩)
  · rintro (q | q | ⟨j, hj, q1, q2, q3, q4, q5⟩)
    · exact .inl (.inl q)
    · exact .inl (.inr q)
    · exact .inr ⟨j, by rw [hn]; exact hj, ⟨q1, q2, q3, q4⟩, q5⟩
theorem reach_more {ps : List Pt} {g : List Arc} {d e : List Bool} {i : Nat} (hS : (sysOf ps).Good) (hd : d.length = ps.length) (hx : Ext (sysOf ps) d e) (hs : LinP.Steps (sysOf ps) g d g e) (ht : ToldAll (sysOf ps) g e) (hi : i < ps.length) (hn : Next ps g e i) {g' : List Arc} (h : Reach (sysOf ps) ((sysOf ps).nx i g) (e.set i true) g') : Reach (sysOf ps) g d g' := by
  rw [reach_read (S := sysOf ps) hS hd hx hs, reach_split ht]
  exact .inr ⟨i, hi, hn.1, hn.2.1, hn.2.2.1, hn.2.2.2, h⟩
set_option maxHeartbeats 4000000 in
theorem orders_step (u : Nat) (ih : ∀ v, v < u → OSays v) : OSays u := by
  intro P D G F pc dc gc fc n m k f ps d g xs R w hn hm hk hf hu hI
  obtain rfl : n = m := hn.trans hm.symm
  have HI := Lib.hid hI
  have HIH := Lib.hid ih
  have HU := Lib.hid hu
  have HN := Lib.hid hn
  have HK := Lib.hid hk
  have HF := Lib.hid hf
  have nb : n ≤ 100000 := by have := hI.sys.small; omega
  have n0 : 0 < n := by have := hI.sys.some'; omega
  have HA := Lib.hid ((Below.refl w.heap.size w).alloc (Nat.le_refl _) (.cells #[] 4))
  have HE := Lib.hid (own_emptyB w)
  have HS2 := Lib.hid (hI.dn.below HA.out (Nat.le_refl _))
  have HDL : Hid ((d.map Value.bool).length = n * 1) := Lib.hid (by rw [List.length_map, hI.dl, ← hn]; omega)
  have HB1 : Hid (∀ u ∈ d.map Value.bool, u.oneCell' = true) := Lib.hid fun u hu => by obtain ⟨b, _, rfl⟩ := List.mem_map.1 hu; rfl
  have m1 : Hid (0 + n ≤ maxLen) := Lib.hid (by unfold maxLen; omega)
  have k1 : Hid ((0 + n) * 1 ≤ 140737488355328) := Lib.hid (by omega)
  have i4 := bool_info
  obtain ⟨b4, hb4, hz0, hz1, hz2⟩ := info_parts i4
  have fin0 : Hid (∀ (A5 : Option Addr) (c5 : Nat) (w5 : World), w5.ownsRow w.heap.size 4 1 (.slice A5 n c5) n ([] ++ d.map Value.bool) → Below w.heap.size w w5 → ∃ gD, A5 = some ⟨gD, 0, none⟩ ∧ w.heap.size ≤ gD ∧ OA w ps d g gD c5 n d w5) := Lib.hid fun A5 c5 w5 h1 h2 => by
    rcases own_form h1 with ⟨_, h0, _⟩ | ⟨gD, cap, hv, hg, _, _, _, _, _⟩
    · omega
    · injection hv with hA _ hc
      subst hA
      exact ⟨gD, rfl, hg, hI.dl, Ext.refl _, .refl _ _, by simpa using h1, h2⟩
  clear hI ih hu hn hk hf hm i4
  go_enter Tryz.func30, Tryz.ntmps30
  go_wp2_with (
    at_builtin
    refine wpList_append_sl _ rfl (.tmp 20) (.tmp 21) 34 rfl w.heap.size 4 b4 _ 1 1 Tryz.underlying34 hb4 hz0 hz1 hz2 rfl (by omega) _ 0 _ rfl HE.out _ n dc (d.map Value.bool) rfl HDL.out HS2.out HB1.out m1.out k1.out HA.out.size n (Nat.zero_add _).symm ?_
    intro A5 c5 w5 hown5 hb5 _ _
    obtain ⟨gD, rfl, hgD, hoa⟩ := fin0.out A5 c5 w5 hown5 (HA.out.trans hb5)
    have HOA := Lib.hid hoa
    have HGD := Lib.hid hgD
    clear hown5 hb5 hoa hgD)
  clear fin0 HS2 HDL HB1 HA HE
  go_loopw [10] (fun x10 wr => ∃ (e : List Bool) (mo : Bool), x10 = .bool mo ∧ OA w ps d g gD c5 n e wr ∧ (mo = false → ToldAll (sysOf ps) g e)) (fun x10 W => 2 * cntM W gD n + if boolOf x10 then 1 else 0)
  case atStart => exact ⟨d, true, rfl, HOA.out, fun h => by cases h⟩
  case round =>
    obtain ⟨e, mo, rfl, hoa, htold⟩ := hrel
    clear HOA
    have HOA := Lib.hid hoa
    have HT := Lib.hid htold
    clear hoa htold
    cases mo
    · have HTT : Hid (ToldAll (sysOf ps) g e) := Lib.hid (HT.out (by first | rfl | trivial))
      clear HT
      have GOOD := Lib.hid HI.out.sys.good
      have HX0 := HOA
      go_wp2
      go_loopw [14, 15] (fun x14 x15 wi => ∃ i : Nat, i ≤ n ∧ x15 = .int .i64 i ∧ x14 = .bool (allB ps e i) ∧ OA w ps d g gD c5 n e wi) (fun _ x15 _ => n - (intOf x15).toNat)
      case atStart => exact ⟨0, Nat.zero_le _, rfl, rfl, HOA.out⟩
      case round =>
        obtain ⟨i, hi, rfl, rfl, hoa⟩ := hrel
        clear HOA
        have HOA := Lib.hid hoa
        clear hoa
        by_cases hlt : i < n
        · have hip : i < ps.length := by rw [← HN.out]; exact hlt
          have i0 : (0 : Int) ≤ (i : Int) := by omega
          have i1 : (i : Int) < (n : Int) := by omega
          have iz : IntKind.i64.wrap ((i : Int) + 1) = (i : Int) + 1 := by rw [IntKind.wrap_i64] <;> omega
          obtain ⟨eb, heb⟩ : ∃ b, e[i]? = some b := ⟨e[i]'(by rw [HOA.out.len]; exact hip), List.getElem?_eq_getElem _⟩
          have c0 := HOA.out.cell heb
          obtain ⟨pb, po, hP, y0, y1, y2, y3, y4, y5, y6, y7, y8, y9, y10, y11, y12, y13⟩ := sl_pt (HI.out.pts.below HOA.out.bel (Nat.le_refl _)) (ptAt_some hip)
          subst hP
          have HAL : Hid (allB ps e (i + 1) = (allB ps e i && (eb || !(ptAt ps i).must))) := Lib.hid (by rw [allB, isD_get heb])
          clear heb y0 y1 y2 y3 y4 y5 y6 y7 y8 y9 y10 y11 y12
          generalize (ptAt ps i).must = mu at y13 HAL
          generalize allB ps e i = al at HAL ⊢
          cases al <;> cases eb <;> cases mu <;> (go_wp2; refine ⟨⟨i + 1, by omega, by go_num, by rw [HAL.out]; rfl, HOA.out⟩, ?_⟩; simp [intOf]; omega)
        · obtain rfl : n = i := by omega
          have AF := Lib.hid (allB_full (e := e) HN.out)
          generalize allB ps e n = al at AF ⊢
          cases al
          · have HBASE : Hid (∀ g', g' ∈ xs.map GSl.l ↔ g' ∈ xs.map GSl.l ∨ (Full (sysOf ps) e ∧ g' = g)) := Lib.hid fun g' => ⟨.inl, fun h => by
              rcases h with h | h
              · exact h
              · exact absurd (AF.out.2 h.1) (by decide)⟩
            have HF2 := HF.out
            have HBR : Hid (∀ g' ∈ xs.map GSl.l, R g') := Lib.hid fun g' hg' => by obtain ⟨x, hx, rfl⟩ := List.mem_map.1 hg'; exact HI.out.rx x hx
            go_wp2
            go_loopw [3, 16] (fun x3 x16 wi => ∃ (i : Nat) (ys : List GSl) (F2 : Option Addr) (f2 : Nat), x3 = .slice F2 ys.length f2 ∧ x16 = .int .i64 i ∧ i ≤ n ∧ Acc ps g e (xs.map GSl.l) i (ys.map GSl.l) ∧ GRd wi F2 ys ∧ OA w ps d g gD c5 n e wi) (fun _ x16 _ => n - (intOf x16).toNat)
            case atStart => exact ⟨0, xs, F, fc, by rw [← HF2], rfl, Nat.zero_le _, Acc.start HI.out.srt, HI.out.fd.below HOA.out.bel (Nat.le_refl _), HOA.out⟩
            case round =>
              obtain ⟨i, ys, F2, f2, rfl, rfl, hi, hacc, hgr, hoa⟩ := hrel
              have HACC := Lib.hid hacc
              have HGR := Lib.hid hgr
              have HOA := Lib.hid hoa
              clear hacc hgr hoa
              obtain ⟨wi, hwi⟩ : ∃ wi, wi = wr := ⟨_, rfl⟩
              subst hwi
              by_cases hlt : i < n
              · have hip : i < ps.length := by rw [← HN.out]; exact hlt
                have i0 : (0 : Int) ≤ (i : Int) := by omega
                have i1 : (i : Int) < (n : Int) := by omega
                have iz : IntKind.i64.wrap ((i : Int) + 1) = (i : Int) + 1 := by rw [IntKind.wrap_i64] <;> omega
                obtain ⟨eb, heb⟩ : ∃ b, e[i]? = some b := ⟨e[i]'(by rw [HOA.out.len]; exact hip), List.getElem?_eq_getElem _⟩
                have c0 := HOA.out.cell heb
                have HEB := Lib.hid (isD_get heb)
                obtain ⟨pb, po, hP, y0, y1, y2, y3, y4, y5, y6, y7, y8, y9, y10, y11, y12, y13⟩ := sl_pt (HI.out.pts.below HOA.out.bel (Nat.le_refl _)) (ptAt_some hip)
                subst hP
                obtain ⟨q, hq⟩ : ∃ q, q = ptAt ps i := ⟨_, rfl⟩
                rw [← hq] at y0 y1 y2 y3 y4 y5 y6 y7 y9 y10 y11 y12 y13
                have HQ := Lib.hid hq
                clear hq
                have D49 : Hid (∀ W : World, Calls Tryz.prog 49 #[.int .i64 q.k] W fun e w' => e = .returned (.bool (turnsB q.k)) ∧ W = w') := Lib.hid fun W => rTurns_any q.k W
                have TE : Hid (turnsB q.k = (sysOf ps).turn i) := Lib.hid (by rw [HQ.out]; rfl)
                have D50 : Hid (Calls Tryz.prog 50 #[.slice (some ⟨pb, po, none⟩) n pc, .slice (some ⟨gD, 0, none⟩) n c5, .int .i64 i] wi fun x w' => x = .returned (.bool (readyL ps e i)) ∧ Below wi.heap.size wi w') := Lib.hid (ready_any _ _ pc c5 n n i ps e wi HN.out HN.out HOA.out.len hip HI.out.sys.small (HI.out.pts.below HOA.out.bel (Nat.le_refl _)) (own_sl HOA.out.own))
                have RE : Hid (readyL ps e i = true ↔ Ready (sysOf ps) e i) := Lib.hid (ready_iff HI.out.sys hip)
                have NX : Hid (Next ps g e i → eb = false ∧ turnsB q.k = true ∧ readyL ps e i = true ∧ (sysOf ps).fit i g = true) := Lib.hid fun h => ⟨by rw [← HEB.out]; exact h.2.1, TE.out.trans h.1, RE.out.2 h.2.2.1, h.2.2.2⟩
                generalize turnsB q.k = tb at D49 TE NX
                generalize readyL ps e i = rb at D50 RE NX
                cases eb
                · cases tb
                  · have HX := Lib.hid (HACC.out.skip (fun h => absurd (NX.out h).2.1 (by decide)))
                    go_wp2_with (first
                      | (go_at_call 49; ((with_reducible refine (D49.out _).mono ?_); rintro e w' ⟨rfl, rfl⟩)))
                    refine ⟨⟨i + 1, ys, F2, f2, rfl, by go_num, by omega, HX.out, HGR.out, HOA.out⟩, ?_⟩
                    simp [intOf]; omega
                  · cases rb
                    · have HX := Lib.hid (HACC.out.skip (fun h => absurd (NX.out h).2.2.1 (by decide)))
                      go_wp2_with (first
                        | (go_at_call 49; ((with_reducible refine (D49.out _).mono ?_); rintro e w' ⟨rfl, rfl⟩))
                        | (go_at_call 50; ((with_reducible refine (D50.out).mono ?_); rintro e w2 ⟨rfl, hb2⟩; have HB2 := Lib.hid hb2; clear hb2)))
                      refine ⟨⟨i + 1, ys, F2, f2, rfl, by go_num, by omega, HX.out, HGR.out.below HB2.out (Nat.le_refl _), HOA.out.later HB2.out⟩, ?_⟩
                      simp [intOf]; omega
                    · obtain ⟨an, han⟩ : ∃ an, an = doA g (opOf q) := ⟨_, rfl⟩
                      have HAN := Lib.hid han
                      clear han
                      have D15 : Hid (∀ W, Below wi.heap.size wi W → Calls Tryz.prog 15 #[.slice G k gc, .agg #[.int .i64 q.k, .int .i64 q.u, .int .i64 q.v, .int .u64 q.x]] W fun e w' => ∃ X dd C fq, e = .returned (.tuple #[.slice X (doG g (opOf q)).length dd, .agg #[.int .i64 an.err, .bool an.is, .int .i64 an.n, .int .u64 an.w, .slice C an.list.length fq]]) ∧ Below W.heap.size W w' ∧ Arcs w' X (doG g (opOf q))) := Lib.hid fun W hW => by
                        have := refDo_any G gc k g (opOf q) W HK.out (HI.out.gr.below (HOA.out.bel.trans (hW.mono HOA.out.bel.size)) (Nat.le_refl _)) HI.out.rises (by have := HI.out.few; omega) (HI.out.sys.fine q (by rw [HQ.out]; exact ptAt_mem hip))
                        refine this.mono ?_
                        rintro e w' ⟨X, dd, C, fq, rfl, ha, _, hb⟩
                        exact ⟨X, dd, C, fq, by rw [HAN.out]; rfl, hb, ha⟩
                      obtain ⟨h2, hh2⟩ : ∃ h2, h2 = doG g (opOf q) := ⟨_, rfl⟩
                      rw [← hh2] at D15
                      have HH2 := Lib.hid hh2
                      clear hh2
                      have Y0 := Lib.hid y0
                      have Y1 := Lib.hid y1
                      have Y2 := Lib.hid y2
                      have Y3 := Lib.hid y3
                      have Y4 := Lib.hid y4
                      have Y5 := Lib.hid y5
                      have Y6 := Lib.hid y6
                      have Y7 := Lib.hid y7
                      have Y8 := Lib.hid y8
                      have Y9 := Lib.hid y9
                      have Y10 := Lib.hid y10
                      have Y11 := Lib.hid y11
                      have Y12 := Lib.hid y12
                      have Y13 := Lib.hid y13
                      clear y4 y5 y6 y7 y8 y9 y10 y11 y12 y13
                      go_wp2_with (first
                        | (go_at_call 49; ((with_reducible refine (D49.out _).mono ?_); rintro e w' ⟨rfl, rfl⟩))
                        | (go_at_call 50; ((with_reducible refine (D50.out).mono ?_); rintro e w2 ⟨rfl, hb2⟩; have HB2 := Lib.hid hb2; have z0 := cellL y0 hb2; have z1 := cellL y1 hb2; have z2 := cellL y2 hb2; have z3 := cellL y3 hb2; clear hb2))
                        | (go_at_call 15; ((with_reducible refine (D15.out _ HB2.out).mono ?_); rintro e w3 ⟨X, dd, C, fq, rfl, hb3, har⟩; have HB3 := Lib.hid (HB2.out.trans (hb3.mono HB2.out.size)); have HAR := Lib.hid har; clear hb3 har)))
                      clear z0 z1 z2 z3 HB2 D15 D49 D50 y0 y1 y2 y3 c0
                      have HA4 := Lib.hid (HAR.out.below ((Below.refl w3.heap.size w3).alloc (Nat.le_refl _) (.cells #[.int .i64 an.err, .bool an.is, .int .i64 an.n, .int .u64 an.w, .slice C an.list.length fq] 41)) (Nat.le_refl _))
                      clear HAR
                      obtain ⟨fb, hfb⟩ : ∃ fb, fb = fitR q an := ⟨_, rfl⟩
                      have HFB := Lib.hid hfb
                      clear hfb
                      have B4 := Lib.hid (HB3.out.alloc HB3.out.size (.cells #[.int .i64 an.err, .bool an.is, .int .i64 an.n, .int .u64 an.w, .slice C an.list.length fq] 41))
                      have OT := Lib.hid (OutAt.new w3 an C fq 41)
                      generalize w3.alloc (.cells #[.int .i64 an.err, .bool an.is, .int .i64 an.n, .int .u64 an.w, .slice C an.list.length fq] 41) = w4 at *
                      obtain ⟨b2, hb2⟩ : ∃ b2, b2 = w3.heap.size := ⟨_, rfl⟩
                      rw [← hb2] at OT ⊢
                      clear hb2
                      have KK : Hid (∀ W : World, Below w4.heap.size w4 W → (W.cell? ⟨pb, po + i * 14, none⟩ = some (.int .i64 q.k) ∧ W.cell? ⟨pb, po + i * 14 + 1, none⟩ = some (.int .i64 q.u) ∧ W.cell? ⟨pb, po + i * 14 + 2, none⟩ = some (.int .i64 q.v) ∧ W.cell? ⟨pb, po + i * 14 + 3, none⟩ = some (.int .u64 q.x) ∧ W.cell? ⟨pb, po + i * 14 + 4, none⟩ = some (.int .i64 q.err) ∧ W.cell? ⟨pb, po + i * 14 + 5, none⟩ = some (.bool q.is) ∧ W.cell? ⟨pb, po + i * 14 + 6, none⟩ = some (.int .i64 q.n) ∧ W.cell? ⟨pb, po + i * 14 + 7, none⟩ = some (.int .u64 q.w) ∧ W.cell? ⟨pb, po + i * 14 + 8, none⟩ = some (.slice none 0 0) ∧ W.cell? ⟨pb, po + i * 14 + 9, none⟩ = some (.bool q.any) ∧ W.cell? ⟨pb, po + i * 14 + 10, none⟩ = some (.int .i64 q.fr) ∧ W.cell? ⟨pb, po + i * 14 + 11, none⟩ = some (.int .i64 q.to) ∧ W.cell? ⟨pb, po + i * 14 + 12, none⟩ = some (.int .i64 q.era) ∧ W.cell? ⟨pb, po + i * 14 + 13, none⟩ = some (.bool q.must) ∧ W.cell? ⟨b2, 0, none⟩ = some (.int .i64 an.err) ∧ W.cell? ⟨b2, 1, none⟩ = some (.bool an.is) ∧ W.cell? ⟨b2, 2, none⟩ = some (.int .i64 an.n) ∧ W.cell? ⟨b2, 3, none⟩ = some (.int .u64 an.w) ∧ W.cell? ⟨b2, 4, none⟩ = some (.slice C an.list.length fq) ∧ Below w4.heap.size w4 W)) := Lib.hid fun W h => ⟨cellL Y0.out (B4.out.trans (h.mono B4.out.size)), cellL Y1.out (B4.out.trans (h.mono B4.out.size)), cellL Y2.out (B4.out.trans (h.mono B4.out.size)), cellL Y3.out (B4.out.trans (h.mono B4.out.size)), cellL Y4.out (B4.out.trans (h.mono B4.out.size)), cellL Y5.out (B4.out.trans (h.mono B4.out.size)), cellL Y6.out (B4.out.trans (h.mono B4.out.size)), cellL Y7.out (B4.out.trans (h.mono B4.out.size)), cellL Y8.out (B4.out.trans (h.mono B4.out.size)), cellL Y9.out (B4.out.trans (h.mono B4.out.size)), cellL Y10.out (B4.out.trans (h.mono B4.out.size)), cellL Y11.out (B4.out.trans (h.mono B4.out.size)), cellL Y12.out (B4.out.trans (h.mono B4.out.size)), cellL Y13.out (B4.out.trans (h.mono B4.out.size)), cellL OT.out.c0 h, cellL OT.out.c1 h, cellL OT.out.c2 h, cellL OT.out.c3 h, cellL OT.out.c4 h, h⟩
                      have SS := Lib.hid (KK.out _ (Below.refl _ _).drew)
                      have DF : Hid (∀ W : World, Calls Tryz.prog 51 #[.agg #[.int .i64 q.k, .int .i64 q.u, .int .i64 q.v, .int .u64 q.x, .int .i64 q.err, .bool q.is, .int .i64 q.n, .int .u64 q.w, .slice none 0 0, .bool q.any, .int .i64 q.fr, .int .i64 q.to, .int .i64 q.era, .bool q.must], .agg #[.int .i64 an.err, .bool an.is, .int .i64 an.n, .int .u64 an.w, .slice C an.list.length fq]] W fun e w' => e = .returned (.bool fb) ∧ Below W.heap.size W w') := Lib.hid fun W => by rw [HFB.out]; exact rFits_any q an C fq W
                      have HO4 := Lib.hid (HOA.out.later B4.out)
                      have HG4 := Lib.hid (HGR.out.below B4.out (Nat.le_refl _))
                      have FE : Hid ((sysOf ps).fit i g = (!q.must || fb)) := Lib.hid (by rw [fit_sys, ← HQ.out]; unfold fitP; rw [HFB.out, HAN.out])
                      -- what is done where the point may stand next
                      have GO : Hid (Next ps g e i → ∀ (wv : World) (nz : Nat), wv.heap.size = nz → Below w4.heap.size w4 wv → ∀ (A6 : Option Addr) (c6 : Nat) (w6 : World), w6.ownsRow nz 4 1 (.slice A6 n c6) n ([] ++ e.map Value.bool) → Below nz wv w6 → ∃ gN, A6 = some ⟨gN, 0, none⟩ ∧ w6.cell? ⟨gN, i, none⟩ = some (.bool false) ∧ w6.frozen? ⟨gN, i, none⟩ = false ∧ Calls Tryz.prog 30 #[.slice (some ⟨pb, po, none⟩) n pc, .slice (some ⟨gN, 0, none⟩) n c6, .slice X h2.length dd, .slice F2 ys.length f2] (w6.setCell ⟨gN, i, none⟩ (.bool true)) fun e2 w' => ∃ B3 f3 zs, e2 = .returned (.slice B3 zs.length f3) ∧ GRd w' B3 zs ∧ Acc ps g e (xs.map GSl.l) (i + 1) (zs.map GSl.l) ∧ OA w ps d g gD c5 n e w') := Lib.hid fun hnx wv nz hz hv A6 c6 w6 ho hb6 => by
                        subst hz
                        rcases own_form ho with ⟨_, h0, _⟩ | ⟨gN, cap, hv2, hg, _, _, _, hcs, hfz⟩
                        · omega
                        · injection hv2 with hA _ hc
                          subst hA hc
                          have hgw : w4.heap.size ≤ gN := Nat.le_trans hv.size hg
                          have b6 : Below w4.heap.size w4 w6 := hv.trans (hb6.mono hv.size)
                          have b7 : Below w4.heap.size w4 (w6.setCell ⟨gN, i, none⟩ (.bool true)) := b6.setCell (p := ⟨gN, i, none⟩) hgw _
                          have bw : Below w.heap.size w (w6.setCell ⟨gN, i, none⟩ (.bool true)) := HO4.out.bel.trans (b7.mono HO4.out.bel.size)
                          have hset := own_set ho i (.bool true)
                          rw [List.nil_append, ← List.map_set] at hset
                          have hue := und_set (S := sysOf ps) (d := e) (i := i) hnx.1 hnx.2.1 hip HOA.out.len
                          have hud := und_ext HX0.out.ext
                          have hu0 := HU.out
                          have hld := len_do g (opOf q)
                          have hfew := HI.out.few
                          have hnx2 : (sysOf ps).nx i g = h2 := by rw [HH2.out, HQ.out]; rfl
                          have hcell := hcs i (.bool false) (by rw [List.nil_append, List.getElem?_map, heb]; rfl)
                          rw [Nat.zero_add] at hcell
                          refine ⟨gN, rfl, hcell, hfz i, ?_⟩
                          have hRY : ∀ x ∈ ys, R x.l := fun x hx => by
                            rcases (HACC.out.mem x.l).1 (List.mem_map.2 ⟨x, hx, rfl⟩) with r | ⟨j, hj, r1, r2⟩
                            · exact HBR.out _ r
                            · exact HI.out.rr _ (reach_more GOOD.out HI.out.dl HX0.out.ext HX0.out.stp HTT.out (by rw [← HN.out]; omega) r1 r2)
                          have hIn : OIn (w6.setCell ⟨gN, i, none⟩ (.bool true)) (some ⟨pb, po, none⟩) (some ⟨gN, 0, none⟩) X F2 ps (e.set i true) h2 ys R :=
                            ⟨HI.out.sys, HI.out.pts.below bw (Nat.le_refl _), own_sl hset, by rw [List.length_set]; exact HOA.out.len, HA4.out.below b7 (Nat.le_refl _), by rw [HH2.out]; exact rises_do HI.out.rises _, by rw [HH2.out]; omega, HG4.out.below b7 (Nat.le_refl _), HACC.out.srt, HI.out.lim, hRY, fun g' hg' => HI.out.rr _ (reach_more GOOD.out HI.out.dl HX0.out.ext HX0.out.stp HTT.out hip hnx (by rw [hnx2]; exact hg'))⟩
                          refine (HIH.out (und (sysOf ps) (e.set i true)) (by omega) _ _ _ _ pc c6 dd f2 n n _ _ ps (e.set i true) h2 ys R _ HN.out HN.out rfl rfl (Nat.le_refl _) hIn).mono ?_
                          rintro e2 w' ⟨B3, f3, zs, rfl, q1, q2, q3, q4⟩
                          exact ⟨B3, f3, zs, rfl, q1, HACC.out.next hnx q2 (by rw [hnx2]; exact q3), HO4.out.later (b7.trans (q4.mono b7.size))⟩
                      have HDE : Hid ((e.map Value.bool).length = n * 1) := Lib.hid (by rw [List.length_map, HOA.out.len, ← HN.out]; omega)
                      have HBE : Hid (∀ u ∈ e.map Value.bool, u.oneCell' = true) := Lib.hid fun u hu => by obtain ⟨b, _, rfl⟩ := List.mem_map.1 hu; rfl
                      have HSE : Hid (∀ W : World, Below w4.heap.size w4 W → Sl W (some ⟨gD, 0, none⟩) (e.map Value.bool)) := Lib.hid fun W h => own_sl (HO4.out.later h).own
                      have RDY : Hid (Ready (sysOf ps) e i) := Lib.hid (RE.out.1 trivial)
                      have MK : Hid ((sysOf ps).fit i g = true → Next ps g e i) := Lib.hid fun h => ⟨TE.out.symm, HEB.out, RDY.out, h⟩
                      clear heb
                      obtain ⟨mu, hmu⟩ : ∃ mu, q.must = mu := ⟨_, rfl⟩
                      have m4 := cellL Y13.out B4.out
                      rw [hmu] at m4
                      cases mu
                      · have HNX := Lib.hid (MK.out (by rw [FE.out, hmu]; rfl))
                        clear hmu
                        have BDN : Hid (∀ r, Below w4.heap.size w4 (w4.drewN r)) := Lib.hid fun r => below_drewN (Below.refl _ _) r
                        have ZDN : Hid (∀ r, (w4.drewN r).heap.size = w4.heap.size) := Lib.hid fun r => by rw [drewN_heap]
                        go_wp2
                        go_quiet (fail)
                        go_wp2_with (first
                          | (
                            at_builtin
                            refine wpList_append_sl _ rfl (.tmp 145) (.tmp 146) 34 rfl w4.heap.size 4 b4 _ 1 1 Tryz.underlying34 hb4 hz0 hz1 hz2 rfl (by omega) _ 0 _ rfl (own_emptyAt _ _ (ZDN.out _)) _ n c5 (e.map Value.bool) rfl HDE.out (HSE.out _ ((BDN.out _).alloc (BDN.out _).size _)) HBE.out m1.out k1.out ((BDN.out _).alloc (BDN.out _).size _).size n (Nat.zero_add _).symm ?_
                            intro A6 c6 w6 ho6 hb6 _ _
                            obtain ⟨gN, rfl, q1, q2, q3⟩ := GO.out HNX.out _ _ (ZDN.out _) (BDN.out _) A6 c6 w6 ho6 (((Below.refl _ _).alloc (Nat.le_of_eq (ZDN.out _).symm) _).trans hb6)
                            have REC := Lib.hid q3
                            clear ho6 hb6 q3)
                          | (go_at_call 30; ((with_reducible refine REC.out.mono ?_); rintro e2 w9 ⟨B3, f3, zs, rfl, s1, s2, s3⟩; have S1 := Lib.hid s1; have S2 := Lib.hid s2; have S3 := Lib.hid s3; clear s1 s2 s3)))
                        refine ⟨⟨i + 1, zs, B3, f3, rfl, by go_num, by omega, S2.out, S1.out, S3.out⟩, ?_⟩
                        simp [intOf]; omega
                      · cases fb
                        · have HX := Lib.hid (HACC.out.skip (fun h => by have := h.2.2.2; rw [FE.out, hmu] at this; cases this))
                          have hm := Lib.hid hmu
                          clear hmu m4
                          rw [hm.out] at SS KK DF
                          go_region_held3 (fun W => (W.cell? ⟨pb, po + i * 14, none⟩ = some (.int .i64 q.k) ∧ W.cell? ⟨pb, po + i * 14 + 1, none⟩ = some (.int .i64 q.u) ∧ W.cell? ⟨pb, po + i * 14 + 2, none⟩ = some (.int .i64 q.v) ∧ W.cell? ⟨pb, po + i * 14 + 3, none⟩ = some (.int .u64 q.x) ∧ W.cell? ⟨pb, po + i * 14 + 4, none⟩ = some (.int .i64 q.err) ∧ W.cell? ⟨pb, po + i * 14 + 5, none⟩ = some (.bool q.is) ∧ W.cell? ⟨pb, po + i * 14 + 6, none⟩ = some (.int .i64 q.n) ∧ W.cell? ⟨pb, po + i * 14 + 7, none⟩ = some (.int .u64 q.w) ∧ W.cell? ⟨pb, po + i * 14 + 8, none⟩ = some (.slice none 0 0) ∧ W.cell? ⟨pb, po + i * 14 + 9, none⟩ = some (.bool q.any) ∧ W.cell? ⟨pb, po + i * 14 + 10, none⟩ = some (.int .i64 q.fr) ∧ W.cell? ⟨pb, po + i * 14 + 11, none⟩ = some (.int .i64 q.to) ∧ W.cell? ⟨pb, po + i * 14 + 12, none⟩ = some (.int .i64 q.era) ∧ W.cell? ⟨pb, po + i * 14 + 13, none⟩ = some (.bool true) ∧ W.cell? ⟨b2, 0, none⟩ = some (.int .i64 an.err) ∧ W.cell? ⟨b2, 1, none⟩ = some (.bool an.is) ∧ W.cell? ⟨b2, 2, none⟩ = some (.int .i64 an.n) ∧ W.cell? ⟨b2, 3, none⟩ = some (.int .u64 an.w) ∧ W.cell? ⟨b2, 4, none⟩ = some (.slice C an.list.length fq) ∧ Below w4.heap.size w4 W))
                            (first | (with_reducible exact SS.out) | (with_reducible assumption))
                            (first | (go_at_call 51; ((with_reducible refine (DF.out _).mono ?_); rintro e w5 ⟨rfl, hb5⟩; have HB5 := Lib.hid (SS.out.2.2.2.2.2.2.2.2.2.2.2.2.2.2.2.2.2.2.2.trans (hb5.mono SS.out.2.2.2.2.2.2.2.2.2.2.2.2.2.2.2.2.2.2.2.size)); have hkk := KK.out _ HB5.out; clear hb5)))
                          go_wp2
                          refine ⟨⟨i + 1, ys, F2, f2, rfl, by go_num, by omega, HX.out, HG4.out.below HB5.out (Nat.le_refl _), HO4.out.later HB5.out⟩, ?_⟩
                          simp [intOf]; omega
                        · have HNX := Lib.hid (MK.out (by rw [FE.out, hmu]; rfl))
                          have hm := Lib.hid hmu
                          clear hmu m4
                          rw [hm.out] at SS KK DF
                          go_region_held3 (fun W => (W.cell? ⟨pb, po + i * 14, none⟩ = some (.int .i64 q.k) ∧ W.cell? ⟨pb, po + i * 14 + 1, none⟩ = some (.int .i64 q.u) ∧ W.cell? ⟨pb, po + i * 14 + 2, none⟩ = some (.int .i64 q.v) ∧ W.cell? ⟨pb, po + i * 14 + 3, none⟩ = some (.int .u64 q.x) ∧ W.cell? ⟨pb, po + i * 14 + 4, none⟩ = some (.int .i64 q.err) ∧ W.cell? ⟨pb, po + i * 14 + 5, none⟩ = some (.bool q.is) ∧ W.cell? ⟨pb, po + i * 14 + 6, none⟩ = some (.int .i64 q.n) ∧ W.cell? ⟨pb, po + i * 14 + 7, none⟩ = some (.int .u64 q.w) ∧ W.cell? ⟨pb, po + i * 14 + 8, none⟩ = some (.slice none 0 0) ∧ W.cell? ⟨pb, po + i * 14 + 9, none⟩ = some (.bool q.any) ∧ W.cell? ⟨pb, po + i * 14 + 10, none⟩ = some (.int .i64 q.fr) ∧ W.cell? ⟨pb, po + i * 14 + 11, none⟩ = some (.int .i64 q.to) ∧ W.cell? ⟨pb, po + i * 14 + 12, none⟩ = some (.int .i64 q.era) ∧ W.cell? ⟨pb, po + i * 14 + 13, none⟩ = some (.bool true) ∧ W.cell? ⟨b2, 0, none⟩ = some (.int .i64 an.err) ∧ W.cell? ⟨b2, 1, none⟩ = some (.bool an.is) ∧ W.cell? ⟨b2, 2, none⟩ = some (.int .i64 an.n) ∧ W.cell? ⟨b2, 3, none⟩ = some (.int .u64 an.w) ∧ W.cell? ⟨b2, 4, none⟩ = some (.slice C an.list.length fq) ∧ Below w4.heap.size w4 W))
                            (first | (with_reducible exact SS.out) | (with_reducible assumption))
                            (first | (go_at_call 51; ((with_reducible refine (DF.out _).mono ?_); rintro e w5 ⟨rfl, hb5⟩; have HB5 := Lib.hid (SS.out.2.2.2.2.2.2.2.2.2.2.2.2.2.2.2.2.2.2.2.trans (hb5.mono SS.out.2.2.2.2.2.2.2.2.2.2.2.2.2.2.2.2.2.2.2.size)); have hkk := KK.out _ HB5.out; clear hb5)))
                          clear hkk
                          go_wp2_with (first
                          | (
                            at_builtin
                            refine wpList_append_sl _ rfl (.tmp 145) (.tmp 146) 34 rfl w5.heap.size 4 b4 _ 1 1 Tryz.underlying34 hb4 hz0 hz1 hz2 rfl (by omega) _ 0 _ rfl (own_emptyAt _ _ rfl) _ n c5 (e.map Value.bool) rfl HDE.out (HSE.out _ (HB5.out.alloc HB5.out.size _)) HBE.out m1.out k1.out ((Below.refl w5.heap.size w5).alloc (Nat.le_refl _) _).size n (Nat.zero_add _).symm ?_
                            intro A6 c6 w6 ho6 hb6 _ _
                            obtain ⟨gN, rfl, q1, q2, q3⟩ := GO.out HNX.out _ _ rfl HB5.out A6 c6 w6 ho6 (((Below.refl _ _).alloc (Nat.le_refl _) _).trans hb6)
                            have REC := Lib.hid q3
                            clear ho6 hb6 q3)
                          | (go_at_call 30; ((with_reducible refine REC.out.mono ?_); rintro e2 w9 ⟨B3, f3, zs, rfl, s1, s2, s3⟩; have S1 := Lib.hid s1; have S2 := Lib.hid s2; have S3 := Lib.hid s3; clear s1 s2 s3)))
                          refine ⟨⟨i + 1, zs, B3, f3, rfl, by go_num, by omega, S2.out, S1.out, S3.out⟩, ?_⟩
                          simp [intOf]; omega
                · have HX := Lib.hid (HACC.out.skip (fun h => absurd (NX.out h).1 (by decide)))
                  go_wp2
                  refine ⟨⟨i + 1, ys, F2, f2, rfl, by go_num, by omega, HX.out, HGR.out, HOA.out⟩, ?_⟩
                  simp [intOf]; omega
              · obtain rfl : n = i := by omega
                have HFIN := Lib.hid (HACC.out.fin HN.out GOOD.out HI.out.dl HX0.out.ext HX0.out.stp HTT.out HBASE.out)
                go_wp2
                go_ret
                exact ⟨F2, f2, ys, rfl, HGR.out, HACC.out.srt, HFIN.out, HOA.out.bel⟩
          · have D52 : Hid (Calls Tryz.prog 52 #[.slice F f fc, .slice G k gc] wr fun e w' => ∃ C f ys, e = .returned (.slice C ys.length f) ∧ GRd w' C ys ∧ ys.map GSl.l = putG (xs.map GSl.l) g ∧ Below wr.heap.size wr w') := Lib.hid (put_any F G fc gc f k xs g wr HF.out HK.out (HI.out.fd.below HOA.out.bel (Nat.le_refl _)) (HI.out.gr.below HOA.out.bel (Nat.le_refl _)) HI.out.srt (by
              have := HI.out.lim _ (lex_nodup HI.out.srt) (fun y hy => by obtain ⟨x, hx, rfl⟩ := List.mem_map.1 hy; exact HI.out.rx x hx)
              rwa [List.length_map] at this) (by have := HI.out.few; omega))
            have HOW := HOA
            go_wp2_with (go_at_call 52; ((with_reducible refine D52.out.mono ?_); rintro e2 w9 ⟨F0, f0, ys0, rfl, p1, p2, p3⟩; have P1 := Lib.hid p1; have P2 := Lib.hid p2; have P3 := Lib.hid p3; clear p1 p2 p3))
            have PSP := Lib.hid (putG_spec (xs.map GSl.l) g HI.out.srt)
            have HSRT : Hid ((ys0.map GSl.l).Pairwise LexLt) := Lib.hid (by rw [P2.out]; exact PSP.out.1)
            have HFULL : Hid (Full (sysOf ps) e) := Lib.hid (AF.out.1 (by first | rfl | trivial))
            have HBASE : Hid (∀ g', g' ∈ ys0.map GSl.l ↔ g' ∈ xs.map GSl.l ∨ (Full (sysOf ps) e ∧ g' = g)) := Lib.hid fun g' => by
              rw [P2.out, PSP.out.2 g']
              exact ⟨fun h => h.elim .inl (fun h => .inr ⟨HFULL.out, h⟩), fun h => h.elim .inl (fun h => .inr h.2)⟩
            have HBR : Hid (∀ g' ∈ ys0.map GSl.l, R g') := Lib.hid fun g' hg' => by
              rcases (HBASE.out g').1 hg' with h | ⟨_, h⟩
              · obtain ⟨x, hx, rfl⟩ := List.mem_map.1 h; exact HI.out.rx x hx
              · subst h
                exact HI.out.rr _ ((reach_read (S := sysOf ps) GOOD.out HI.out.dl HX0.out.ext HX0.out.stp).2 ⟨e, .refl _ _, HFULL.out⟩)
            have HO9 := Lib.hid (HOW.out.later P3.out)
            clear D52 HOA
            go_loopw [3, 16] (fun x3 x16 wi => ∃ (i : Nat) (ys : List GSl) (F2 : Option Addr) (f2 : Nat), x3 = .slice F2 ys.length f2 ∧ x16 = .int .i64 i ∧ i ≤ n ∧ Acc ps g e (ys0.map GSl.l) i (ys.map GSl.l) ∧ GRd wi F2 ys ∧ OA w ps d g gD c5 n e wi) (fun _ x16 _ => n - (intOf x16).toNat)
            case atStart => exact ⟨0, ys0, F0, f0, rfl, rfl, Nat.zero_le _, Acc.start HSRT.out, P1.out, HO9.out⟩
            case round =>
              obtain ⟨i, ys, F2, f2, rfl, rfl, hi, hacc, hgr, hoa⟩ := hrel
              have HACC := Lib.hid hacc
              have HGR := Lib.hid hgr
              have HOA := Lib.hid hoa
              clear hacc hgr hoa
              obtain ⟨wi, hwi⟩ : ∃ wi, wi = wr := ⟨_, rfl⟩
              subst hwi
              by_cases hlt : i < n
              · have hip : i < ps.length := by rw [← HN.out]; exact hlt
                have i0 : (0 : Int) ≤ (i : Int) := by omega
                have i1 : (i : Int) < (n : Int) := by omega
                have iz : IntKind.i64.wrap ((i : Int) + 1) = (i : Int) + 1 := by rw [IntKind.wrap_i64] <;> omega
                obtain ⟨eb, heb⟩ : ∃ b, e[i]? = some b := ⟨e[i]'(by rw [HOA.out.len]; exact hip), List.getElem?_eq_getElem _⟩
                have c0 := HOA.out.cell heb
                have HEB := Lib.hid (isD_get heb)
                obtain ⟨pb, po, hP, y0, y1, y2, y3, y4, y5, y6, y7, y8, y9, y10, y11, y12, y13⟩ := sl_pt (HI.out.pts.below HOA.out.bel (Nat.le_refl _)) (ptAt_some hip)
                subst hP
                obtain ⟨q, hq⟩ : ∃ q, q = ptAt ps i := ⟨_, rfl⟩
                rw [← hq] at y0 y1 y2 y3 y4 y5 y6 y7 y9 y10 y11 y12 y13
                have HQ := Lib.hid hq
                clear hq
                have D49 : Hid (∀ W : World, Calls Tryz.prog 49 #[.int .i64 q.k] W fun e w' => e = .returned (.bool (turnsB q.k)) ∧ W = w') := Lib.hid fun W => rTurns_any q.k W
                have TE : Hid (turnsB q.k = (sysOf ps).turn i) := Lib.hid (by rw [HQ.out]; rfl)
                have D50 : Hid (Calls Tryz.prog 50 #[.slice (some ⟨pb, po, none⟩) n pc, .slice (some ⟨gD, 0, none⟩) n c5, .int .i64 i] wi fun x w' => x = .returned (.bool (readyL ps e i)) ∧ Below wi.heap.size wi w') := Lib.hid (ready_any _ _ pc c5 n n i ps e wi HN.out HN.out HOA.out.len hip HI.out.sys.small (HI.out.pts.below HOA.out.bel (Nat.le_refl _)) (own_sl HOA.out.own))
                have RE : Hid (readyL ps e i = true ↔ Ready (sysOf ps) e i) := Lib.hid (ready_iff HI.out.sys hip)
                have NX : Hid (Next ps g e i → eb = false ∧ turnsB q.k = true ∧ readyL ps e i = true ∧ (sysOf ps).fit i g = true) := Lib.hid fun h => ⟨by rw [← HEB.out]; exact h.2.1, TE.out.trans h.1, RE.out.2 h.2.2.1, h.2.2.2⟩
                generalize turnsB q.k = tb at D49 TE NX
                generalize readyL ps e i = rb at D50 RE NX
                cases eb
                · cases tb
                  · have HX := Lib.hid (HACC.out.skip (fun h => absurd (NX.out h).2.1 (by decide)))
                    go_wp2_with (first
                      | (go_at_call 49; ((with_reducible refine (D49.out _).mono ?_); rintro e w' ⟨rfl, rfl⟩)))
                    refine ⟨⟨i + 1, ys, F2, f2, rfl, by go_num, by omega, HX.out, HGR.out, HOA.out⟩, ?_⟩
                    simp [intOf]; omega
                  · cases rb
                    · have HX := Lib.hid (HACC.out.skip (fun h => absurd (NX.out h).2.2.1 (by decide)))
                      go_wp2_with (first
                        | (go_at_call 49; ((with_reducible refine (D49.out _).mono ?_); rintro e w' ⟨rfl, rfl⟩))
                        | (go_at_call 50; ((with_reducible refine (D50.out).mono ?_); rintro e w2 ⟨rfl, hb2⟩; have HB2 := Lib.hid hb2; clear hb2)))
                      refine ⟨⟨i + 1, ys, F2, f2, rfl, by go_num, by omega, HX.out, HGR.out.below HB2.out (Nat.le_refl _), HOA.out.later HB2.out⟩, ?_⟩
                      simp [intOf]; omega
                    · obtain ⟨an, han⟩ : ∃ an, an = doA g (opOf q) := ⟨_, rfl⟩
                      have HAN := Lib.hid han
                      clear han
                      have D15 : Hid (∀ W, Below wi.heap.size wi W → Calls Tryz.prog 15 #[.slice G k gc, .agg #[.int .i64 q.k, .int .i64 q.u, .int .i64 q.v, .int .u64 q.x]] W fun e w' => ∃ X dd C fq, e = .returned (.tuple #[.slice X (doG g (opOf q)).length dd, .agg #[.int .i64 an.err, .bool an.is, .int .i64 an.n, .int .u64 an.w, .slice C an.list.length fq]]) ∧ Below W.heap.size W w' ∧ Arcs w' X (doG g (opOf q))) := Lib.hid fun W hW => by
                        have := refDo_any G gc k g (opOf q) W HK.out (HI.out.gr.below (HOA.out.bel.trans (hW.mono HOA.out.bel.size)) (Nat.le_refl _)) HI.out.rises (by have := HI.out.few; omega) (HI.out.sys.fine q (by rw [HQ.out]; exact ptAt_mem hip))
                        refine this.mono ?_
                        rintro e w' ⟨X, dd, C, fq, rfl, ha, _, hb⟩
                        exact ⟨X, dd, C, fq, by rw [HAN.out]; rfl, hb, ha⟩
                      obtain ⟨h2, hh2⟩ : ∃ h2, h2 = doG g (opOf q) := ⟨_, rfl⟩
                      rw [← hh2] at D15
                      have HH2 := Lib.hid hh2
                      clear hh2
                      have Y0 := Lib.hid y0
                      have Y1 := Lib.hid y1
                      have Y2 := Lib.hid y2
                      have Y3 := Lib.hid y3
                      have Y4 := Lib.hid y4
                      have Y5 := Lib.hid y5
                      have Y6 := Lib.hid y6
                      have Y7 := Lib.hid y7
                      have Y8 := Lib.hid y8
                      have Y9 := Lib.hid y9
                      have Y10 := Lib.hid y10
                      have Y11 := Lib.hid y11
                      have Y12 := Lib.hid y12
                      have Y13 := Lib.hid y13
                      clear y4 y5 y6 y7 y8 y9 y10 y11 y12 y13
                      go_wp2_with (first
                        | (go_at_call 49; ((with_reducible refine (D49.out _).mono ?_); rintro e w' ⟨rfl, rfl⟩))
                        | (go_at_call 50; ((with_reducible refine (D50.out).mono ?_); rintro e w2 ⟨rfl, hb2⟩; have HB2 := Lib.hid hb2; have z0 := cellL y0 hb2; have z1 := cellL y1 hb2; have z2 := cellL y2 hb2; have z3 := cellL y3 hb2; clear hb2))
                        | (go_at_call 15; ((with_reducible refine (D15.out _ HB2.out).mono ?_); rintro e w3 ⟨X, dd, C, fq, rfl, hb3, har⟩; have HB3 := Lib.hid (HB2.out.trans (hb3.mono HB2.out.size)); have HAR := Lib.hid har; clear hb3 har)))
                      clear z0 z1 z2 z3 HB2 D15 D49 D50 y0 y1 y2 y3 c0
                      have HA4 := Lib.hid (HAR.out.below ((Below.refl w3.heap.size w3).alloc (Nat.le_refl _) (.cells #[.int .i64 an.err, .bool an.is, .int .i64 an.n, .int .u64 an.w, .slice C an.list.length fq] 41)) (Nat.le_refl _))
                      clear HAR
                      obtain ⟨fb, hfb⟩ : ∃ fb, fb = fitR q an := ⟨_, rfl⟩
                      have HFB := Lib.hid hfb
                      clear hfb
                      have B4 := Lib.hid (HB3.out.alloc HB3.out.size (.cells #[.int .i64 an.err, .bool an.is, .int .i64 an.n, .int .u64 an.w, .slice C an.list.length fq] 41))
                      have OT := Lib.hid (OutAt.new w3 an C fq 41)
                      generalize w3.alloc (.cells #[.int .i64 an.err, .bool an.is, .int .i64 an.n, .int .u64 an.w, .slice C an.list.length fq] 41) = w4 at *
                      obtain ⟨b2, hb2⟩ : ∃ b2, b2 = w3.heap.size := ⟨_, rfl⟩
                      rw [← hb2] at OT ⊢
                      clear hb2
                      have KK : Hid (∀ W : World, Below w4.heap.size w4 W → (W.cell? ⟨pb, po + i * 14, none⟩ = some (.int .i64 q.k) ∧ W.cell? ⟨pb, po + i * 14 + 1, none⟩ = some (.int .i64 q.u) ∧ W.cell? ⟨pb, po + i * 14 + 2, none⟩ = some (.int .i64 q.v) ∧ W.cell? ⟨pb, po + i * 14 + 3, none⟩ = some (.int .u64 q.x) ∧ W.cell? ⟨pb, po + i * 14 + 4, none⟩ = some (.int .i64 q.err) ∧ W.cell? ⟨pb, po + i * 14 + 5, none⟩ = some (.bool q.is) ∧ W.cell? ⟨pb, po + i * 14 + 6, none⟩ = some (.int .i64 q.n) ∧ W.cell? ⟨pb, po + i * 14 + 7, none⟩ = some (.int .u64 q.w) ∧ W.cell? ⟨pb, po + i * 14 + 8, none⟩ = some (.slice none 0 0) ∧ W.cell? ⟨pb, po + i * 14 + 9, none⟩ = some (.bool q.any) ∧ W.cell? ⟨pb, po + i * 14 + 10, none⟩ = some (.int .i64 q.fr) ∧ W.cell? ⟨pb, po + i * 14 + 11, none⟩ = some (.int .i64 q.to) ∧ W.cell? ⟨pb, po + i * 14 + 12, none⟩ = some (.int .i64 q.era) ∧ W.cell? ⟨pb, po + i * 14 + 13, none⟩ = some (.bool q.must) ∧ W.cell? ⟨b2, 0, none⟩ = some (.int .i64 an.err) ∧ W.cell? ⟨b2, 1, none⟩ = some (.bool an.is) ∧ W.cell? ⟨b2, 2, none⟩ = some (.int .i64 an.n) ∧ W.cell? ⟨b2, 3, none⟩ = some (.int .u64 an.w) ∧ W.cell? ⟨b2, 4, none⟩ = some (.slice C an.list.length fq) ∧ Below w4.heap.size w4 W)) := Lib.hid fun W h => ⟨cellL Y0.out (B4.out.trans (h.mono B4.out.size)), cellL Y1.out (B4.out.trans (h.mono B4.out.size)), cellL Y2.out (B4.out.trans (h.mono B4.out.size)), cellL Y3.out (B4.out.trans (h.mono B4.out.size)), cellL Y4.out (B4.out.trans (h.mono B4.out.size)), cellL Y5.out (B4.out.trans (h.mono B4.out.size)), cellL Y6.out (B4.out.trans (h.mono B4.out.size)), cellL Y7.out (B4.out.trans (h.mono B4.out.size)), cellL Y8.out (B4.out.trans (h.mono B4.out.size)), cellL Y9.out (B4.out.trans (h.mono B4.out.size)), cellL Y10.out (B4.out.trans (h.mono B4.out.size)), cellL Y11.out (B4.out.trans (h.mono B4.out.size)), cellL Y12.out (B4.out.trans (h.mono B4.out.size)), cellL Y13.out (B4.out.trans (h.mono B4.out.size)), cellL OT.out.c0 h, cellL OT.out.c1 h, cellL OT.out.c2 h, cellL OT.out.c3 h, cellL OT.out.c4 h, h⟩
                      have SS := Lib.hid (KK.out _ (Below.refl _ _).drew)
                      have DF : Hid (∀ W : World, Calls Tryz.prog 51 #[.agg #[.int .i64 q.k, .int .i64 q.u, .int .i64 q.v, .int .u64 q.x, .int .i64 q.err, .bool q.is, .int .i64 q.n, .int .u64 q.w, .slice none 0 0, .bool q.any, .int .i64 q.fr, .int .i64 q.to, .int .i64 q.era, .bool q.must], .agg #[.int .i64 an.err, .bool an.is, .int .i64 an.n, .int .u64 an.w, .slice C an.list.length fq]] W fun e w' => e = .returned (.bool fb) ∧ Below W.heap.size W w') := Lib.hid fun W => by rw [HFB.out]; exact rFits_any q an C fq W
                      have HO4 := Lib.hid (HOA.out.later B4.out)
                      have HG4 := Lib.hid (HGR.out.below B4.out (Nat.le_refl _))
                      have FE : Hid ((sysOf ps).fit i g = (!q.must || fb)) := Lib.hid (by rw [fit_sys, ← HQ.out]; unfold fitP; rw [HFB.out, HAN.out])
                      -- what is done where the point may stand next
                      have GO : Hid (Next ps g e i → ∀ (wv : World) (nz : Nat), wv.heap.size = nz → Below w4.heap.size w4 wv → ∀ (A6 : Option Addr) (c6 : Nat) (w6 : World), w6.ownsRow nz 4 1 (.slice A6 n c6) n ([] ++ e.map Value.bool) → Below nz wv w6 → ∃ gN, A6 = some ⟨gN, 0, none⟩ ∧ w6.cell? ⟨gN, i, none⟩ = some (.bool false) ∧ w6.frozen? ⟨gN, i, none⟩ = false ∧ Calls Tryz.prog 30 #[.slice (some ⟨pb, po, none⟩) n pc, .slice (some ⟨gN, 0, none⟩) n c6, .slice X h2.length dd, .slice F2 ys.length f2] (w6.setCell ⟨gN, i, none⟩ (.bool true)) fun e2 w' => ∃ B3 f3 zs, e2 = .returned (.slice B3 zs.length f3) ∧ GRd w' B3 zs ∧ Acc ps g e (ys0.map GSl.l) (i + 1) (zs.map GSl.l) ∧ OA w ps d g gD c5 n e w') := Lib.hid fun hnx wv nz hz hv A6 c6 w6 ho hb6 => by
                        subst hz
                        rcases own_form ho with ⟨_, h0, _⟩ | ⟨gN, cap, hv2, hg, _, _, _, hcs, hfz⟩
                        · omega
                        · injection hv2 with hA _ hc
                          subst hA hc
                          have hgw : w4.heap.size ≤ gN := Nat.le_trans hv.size hg
                          have b6 : Below w4.heap.size w4 w6 := hv.trans (hb6.mono hv.size)
                          have b7 : Below w4.heap.size w4 (w6.setCell ⟨gN, i, none⟩ (.bool true)) := b6.setCell (p := ⟨gN, i, none⟩) hgw _
                          have bw : Below w.heap.size w (w6.setCell ⟨gN, i, none⟩ (.bool true)) := HO4.out.bel.trans (b7.mono HO4.out.bel.size)
                          have hset := own_set ho i (.bool true)
                          rw [List.nil_append, ← List.map_set] at hset
                          have hue := und_set (S := sysOf ps) (d := e) (i := i) hnx.1 hnx.2.1 hip HOA.out.len
                          have hud := und_ext HX0.out.ext
                          have hu0 := HU.out
                          have hld := len_do g (opOf q)
                          have hfew := HI.out.few
                          have hnx2 : (sysOf ps).nx i g = h2 := by rw [HH2.out, HQ.out]; rfl
                          have hcell := hcs i (.bool false) (by rw [List.nil_append, List.getElem?_map, heb]; rfl)
                          rw [Nat.zero_add] at hcell
                          refine ⟨gN, rfl, hcell, hfz i, ?_⟩
                          have hRY : ∀ x ∈ ys, R x.l := fun x hx => by
                            rcases (HACC.out.mem x.l).1 (List.mem_map.2 ⟨x, hx, rfl⟩) with r | ⟨j, hj, r1, r2⟩
                            · exact HBR.out _ r
                            · exact HI.out.rr _ (reach_more GOOD.out HI.out.dl HX0.out.ext HX0.out.stp HTT.out (by rw [← HN.out]; omega) r1 r2)
                          have hIn : OIn (w6.setCell ⟨gN, i, none⟩ (.bool true)) (some ⟨pb, po, none⟩) (some ⟨gN, 0, none⟩) X F2 ps (e.set i true) h2 ys R :=
                            ⟨HI.out.sys, HI.out.pts.below bw (Nat.le_refl _), own_sl hset, by rw [List.length_set]; exact HOA.out.len, HA4.out.below b7 (Nat.le_refl _), by rw [HH2.out]; exact rises_do HI.out.rises _, by rw [HH2.out]; omega, HG4.out.below b7 (Nat.le_refl _), HACC.out.srt, HI.out.lim, hRY, fun g' hg' => HI.out.rr _ (reach_more GOOD.out HI.out.dl HX0.out.ext HX0.out.stp HTT.out hip hnx (by rw [hnx2]; exact hg'))⟩
                          refine (HIH.out (und (sysOf ps) (e.set i true)) (by omega) _ _ _ _ pc c6 dd f2 n n _ _ ps (e.set i true) h2 ys R _ HN.out HN.out rfl rfl (Nat.le_refl _) hIn).mono ?_
                          rintro e2 w' ⟨B3, f3, zs, rfl, q1, q2, q3, q4⟩
                          exact ⟨B3, f3, zs, rfl, q1, HACC.out.next hnx q2 (by rw [hnx2]; exact q3), HO4.out.later (b7.trans (q4.mono b7.size))⟩
                      have HDE : Hid ((e.map Value.bool).length = n * 1) := Lib.hid (by rw [List.length_map, HOA.out.len, ← HN.out]; omega)
                      have HBE : Hid (∀ u ∈ e.map Value.bool, u.oneCell' = true) := Lib.hid fun u hu => by obtain ⟨b, _, rfl⟩ := List.mem_map.1 hu; rfl
                      have HSE : Hid (∀ W : World, Below w4.heap.size w4 W → Sl W (some ⟨gD, 0, none⟩) (e.map Value.bool)) := Lib.hid fun W h => own_sl (HO4.out.later h).own
                      have RDY : Hid (Ready (sysOf ps) e i) := Lib.hid (RE.out.1 trivial)
                      have MK : Hid ((sysOf ps).fit i g = true → Next ps g e i) := Lib.hid fun h => ⟨TE.out.symm, HEB.out, RDY.out, h⟩
                      clear heb
                      obtain ⟨mu, hmu⟩ : ∃ mu, q.must = mu := ⟨_, rfl⟩
                      have m4 := cellL Y13.out B4.out
                      rw [hmu] at m4
                      cases mu
                      · have HNX := Lib.hid (MK.out (by rw [FE.out, hmu]; rfl))
                        clear hmu
                        have BDN : Hid (∀ r, Below w4.heap.size w4 (w4.drewN r)) := Lib.hid fun r => below_drewN (Below.refl _ _) r
                        have ZDN : Hid (∀ r, (w4.drewN r).heap.size = w4.heap.size) := Lib.hid fun r => by rw [drewN_heap]
                        go_wp2
                        go_quiet (fail)
                        go_wp2_with (first
                          | (
                            at_builtin
                            refine wpList_append_sl _ rfl (.tmp 145) (.tmp 146) 34 rfl w4.heap.size 4 b4 _ 1 1 Tryz.underlying34 hb4 hz0 hz1 hz2 rfl (by omega) _ 0 _ rfl (own_emptyAt _ _ (ZDN.out _)) _ n c5 (e.map Value.bool) rfl HDE.out (HSE.out _ ((BDN.out _).alloc (BDN.out _).size _)) HBE.out m1.out k1.out ((BDN.out _).alloc (BDN.out _).size _).size n (Nat.zero_add _).symm ?_
                            intro A6 c6 w6 ho6 hb6 _ _
                            obtain ⟨gN, rfl, q1, q2, q3⟩ := GO.out HNX.out _ _ (ZDN.out _) (BDN.out _) A6 c6 w6 ho6 (((Below.refl _ _).alloc (Nat.le_of_eq (ZDN.out _).symm) _).trans hb6)
                            have REC := Lib.hid q3
                            clear ho6 hb6 q3)
                          | (go_at_call 30; ((with_reducible refine REC.out.mono ?_); rintro e2 w9 ⟨B3, f3, zs, rfl, s1, s2, s3⟩; have S1 := Lib.hid s1; have S2 := Lib.hid s2; have S3 := Lib.hid s3; clear s1 s2 s3)))
                        refine ⟨⟨i + 1, zs, B3, f3, rfl, by go_num, by omega, S2.out, S1.out, S3.out⟩, ?_⟩
                        simp [intOf]; omega
                      · cases fb
                        · have HX := Lib.hid (HACC.out.skip (fun h => by have := h.2.2.2; rw [FE.out, hmu] at this; cases this))
                          have hm := Lib.hid hmu
                          clear hmu m4
                          rw [hm.out] at SS KK DF
                          go_region_held3 (fun W => (W.cell? ⟨pb, po + i * 14, none⟩ = some (.int .i64 q.k) ∧ W.cell? ⟨pb, po + i * 14 + 1, none⟩ = some (.int .i64 q.u) ∧ W.cell? ⟨pb, po + i * 14 + 2, none⟩ = some (.int .i64 q.v) ∧ W.cell? ⟨pb, po + i * 14 + 3, none⟩ = some (.int .u64 q.x) ∧ W.cell? ⟨pb, po + i * 14 + 4, none⟩ = some (.int .i64 q.err) ∧ W.cell? ⟨pb, po + i * 14 + 5, none⟩ = some (.bool q.is) ∧ W.cell? ⟨pb, po + i * 14 + 6, none⟩ = some (.int .i64 q.n) ∧ W.cell? ⟨pb, po + i * 14 + 7, none⟩ = some (.int .u64 q.w) ∧ W.cell? ⟨pb, po + i * 14 + 8, none⟩ = some (.slice none 0 0) ∧ W.cell? ⟨pb, po + i * 14 + 9, none⟩ = some (.bool q.any) ∧ W.cell? ⟨pb, po + i * 14 + 10, none⟩ = some (.int .i64 q.fr) ∧ W.cell? ⟨pb, po + i * 14 + 11, none⟩ = some (.int .i64 q.to) ∧ W.cell? ⟨pb, po + i * 14 + 12, none⟩ = some (.int .i64 q.era) ∧ W.cell? ⟨pb, po + i * 14 + 13, none⟩ = some (.bool true) ∧ W.cell? ⟨b2, 0, none⟩ = some (.int .i64 an.err) ∧ W.cell? ⟨b2, 1, none⟩ = some (.bool an.is) ∧ W.cell? ⟨b2, 2, none⟩ = some (.int .i64 an.n) ∧ W.cell? ⟨b2, 3, none⟩ = some (.int .u64 an.w) ∧ W.cell? ⟨b2, 4, none⟩ = some (.slice C an.list.length fq) ∧ Below w4.heap.size w4 W))
                            (first | (with_reducible exact SS.out) | (with_reducible assumption))
                            (first | (go_at_call 51; ((with_reducible refine (DF.out _).mono ?_); rintro e w5 ⟨rfl, hb5⟩; have HB5 := Lib.hid (SS.out.2.2.2.2.2.2.2.2.2.2.2.2.2.2.2.2.2.2.2.trans (hb5.mono SS.out.2.2.2.2.2.2.2.2.2.2.2.2.2.2.2.2.2.2.2.size)); have hkk := KK.out _ HB5.out; clear hb5)))
                          go_wp2
                          refine ⟨⟨i + 1, ys, F2, f2, rfl, by go_num, by omega, HX.out, HG4.out.below HB5.out (Nat.le_refl _), HO4.out.later HB5.out⟩, ?_⟩
                          simp [intOf]; omega
                        · have HNX := Lib.hid (MK.out (by rw [FE.out, hmu]; rfl))
                          have hm := Lib.hid hmu
                          clear hmu m4
                          rw [hm.out] at SS KK DF
                          go_region_held3 (fun W => (W.cell? ⟨pb, po + i * 14, none⟩ = some (.int .i64 q.k) ∧ W.cell? ⟨pb, po + i * 14 + 1, none⟩ = some (.int .i64 q.u) ∧ W.cell? ⟨pb, po + i * 14 + 2, none⟩ = some (.int .i64 q.v) ∧ W.cell? ⟨pb, po + i * 14 + 3, none⟩ = some (.int .u64 q.x) ∧ W.cell? ⟨pb, po + i * 14 + 4, none⟩ = some (.int .i64 q.err) ∧ W.cell? ⟨pb, po + i * 14 + 5, none⟩ = some (.bool q.is) ∧ W.cell? ⟨pb, po + i * 14 + 6, none⟩ = some (.int .i64 q.n) ∧ W.cell? ⟨pb, po + i * 14 + 7, none⟩ = some (.int .u64 q.w) ∧ W.cell? ⟨pb, po + i * 14 + 8, none⟩ = some (.slice none 0 0) ∧ W.cell? ⟨pb, po + i * 14 + 9, none⟩ = some (.bool q.any) ∧ W.cell? ⟨pb, po + i * 14 + 10, none⟩ = some (.int .i64 q.fr) ∧ W.cell? ⟨pb, po + i * 14 + 11, none⟩ = some (.int .i64 q.to) ∧ W.cell? ⟨pb, po + i * 14 + 12, none⟩ = some (.int .i64 q.era) ∧ W.cell? ⟨pb, po + i * 14 + 13, none⟩ = some (.bool true) ∧ W.cell? ⟨b2, 0, none⟩ = some (.int .i64 an.err) ∧ W.cell? ⟨b2, 1, none⟩ = some (.bool an.is) ∧ W.cell? ⟨b2, 2, none⟩ = some (.int .i64 an.n) ∧ W.cell? ⟨b2, 3, none⟩ = some (.int .u64 an.w) ∧ W.cell? ⟨b2, 4, none⟩ = some (.slice C an.list.length fq) ∧ Below w4.heap.size w4 W))
                            (first | (with_reducible exact SS.out) | (with_reducible assumption))
                            (first | (go_at_call 51; ((with_reducible refine (DF.out _).mono ?_); rintro e w5 ⟨rfl, hb5⟩; have HB5 := Lib.hid (SS.out.2.2.2.2.2.2.2.2.2.2.2.2.2.2.2.2.2.2.2.trans (hb5.mono SS.out.2.2.2.2.2.2.2.2.2.2.2.2.2.2.2.2.2.2.2.size)); have hkk := KK.out _ HB5.out; clear hb5)))
                          clear hkk
                          go_wp2_with (first
                          | (
                            at_builtin
                            refine wpList_append_sl _ rfl (.tmp 145) (.tmp 146) 34 rfl w5.heap.size 4 b4 _ 1 1 Tryz.underlying34 hb4 hz0 hz1 hz2 rfl (by omega) _ 0 _ rfl (own_emptyAt _ _ rfl) _ n c5 (e.map Value.bool) rfl HDE.out (HSE.out _ (HB5.out.alloc HB5.out.size _)) HBE.out m1.out k1.out ((Below.refl w5.heap.size w5).alloc (Nat.le_refl _) _).size n (Nat.zero_add _).symm ?_
                            intro A6 c6 w6 ho6 hb6 _ _
                            obtain ⟨gN, rfl, q1, q2, q3⟩ := GO.out HNX.out _ _ rfl HB5.out A6 c6 w6 ho6 (((Below.refl _ _).alloc (Nat.le_refl _) _).trans hb6)
                            have REC := Lib.hid q3
                            clear ho6 hb6 q3)
                          | (go_at_call 30; ((with_reducible refine REC.out.mono ?_); rintro e2 w9 ⟨B3, f3, zs, rfl, s1, s2, s3⟩; have S1 := Lib.hid s1; have S2 := Lib.hid s2; have S3 := Lib.hid s3; clear s1 s2 s3)))
                          refine ⟨⟨i + 1, zs, B3, f3, rfl, by go_num, by omega, S2.out, S1.out, S3.out⟩, ?_⟩
                          simp [intOf]; omega
                · have HX := Lib.hid (HACC.out.skip (fun h => absurd (NX.out h).1 (by decide)))
                  go_wp2
                  refine ⟨⟨i + 1, ys, F2, f2, rfl, by go_num, by omega, HX.out, HGR.out, HOA.out⟩, ?_⟩
                  simp [intOf]; omega
              · obtain rfl : n = i := by omega
                have HFIN := Lib.hid (HACC.out.fin HN.out GOOD.out HI.out.dl HX0.out.ext HX0.out.stp HTT.out HBASE.out)
                go_wp2
                go_ret
                exact ⟨F2, f2, ys, rfl, HGR.out, HACC.out.srt, HFIN.out, HOA.out.bel⟩
    · clear HT
      obtain ⟨w0, hw0⟩ : ∃ w0, w0 = wr := ⟨_, rfl⟩
      subst hw0
      go_wp2
      go_loopw [10, 11] (fun x10 x11 wi => ∃ (i : Nat) (e' : List Bool) (m' : Bool), x10 = .bool m' ∧ x11 = .int .i64 i ∧ i ≤ n ∧ OA w ps d g gD c5 n e' wi ∧ (m' = false → e' = e ∧ ∀ j, j < i → ToldAt (sysOf ps) g e j) ∧ (m' = true → cntF e' < cntF e)) (fun _ x11 _ => n - (intOf x11).toNat)
      case atStart => exact ⟨0, e, false, rfl, rfl, Nat.zero_le _, HOA.out, fun _ => ⟨rfl, fun j hj => by omega⟩, fun h => by cases h⟩
      case round =>
        obtain ⟨i, e', m', rfl, rfl, hi, hoa', h1, h2⟩ := hrel
        have HOB := Lib.hid hoa'
        have H1 := Lib.hid h1
        have H2 := Lib.hid h2
        clear hoa' h1 h2
        obtain ⟨wi, hwi⟩ : ∃ wi, wi = wr := ⟨_, rfl⟩
        subst hwi
        by_cases hlt : i < n
        · have hip : i < ps.length := by rw [← HN.out]; exact hlt
          have i0 : (0 : Int) ≤ (i : Int) := by omega
          have i1 : (i : Int) < (n : Int) := by omega
          have iz : IntKind.i64.wrap ((i : Int) + 1) = (i : Int) + 1 := by rw [IntKind.wrap_i64] <;> omega
          obtain ⟨eb, heb⟩ : ∃ b, e'[i]? = some b := ⟨e'[i]'(by rw [HOB.out.len]; exact hip), List.getElem?_eq_getElem _⟩
          have c0 := HOB.out.cell heb
          have HEB := Lib.hid (isD_get heb)
          obtain ⟨pb, po, hP, y0, y1, y2, y3, y4, y5, y6, y7, y8, y9, y10, y11, y12, y13⟩ := sl_pt (HI.out.pts.below HOB.out.bel (Nat.le_refl _)) (ptAt_some hip)
          subst hP
          have GOOD := Lib.hid HI.out.sys.good
          obtain ⟨q, hq⟩ : ∃ q, q = ptAt ps i := ⟨_, rfl⟩
          rw [← hq] at y0 y1 y2 y3 y4 y5 y6 y7 y9 y10 y11 y12 y13
          have HQ := Lib.hid hq
          clear hq
          -- a round that leaves all as it is
          have SKIP : Hid (ToldAt (sysOf ps) g e' i → (m' = false → e' = e ∧ ∀ j, j < i + 1 → ToldAt (sysOf ps) g e j)) := Lib.hid fun ht hm => by
            obtain ⟨he, hall⟩ := H1.out hm
            refine ⟨he, fun j hj => ?_⟩
            rcases Nat.lt_or_ge j i with r | r
            · exact hall j r
            · obtain rfl : j = i := by omega
              rw [← he]; exact ht
          have fzD : wi.frozen? ⟨gD, i, none⟩ = false := own_frozen HOB.out.own i
          have D49 : Hid (∀ W : World, Calls Tryz.prog 49 #[.int .i64 q.k] W fun e w' => e = .returned (.bool (turnsB q.k)) ∧ W = w') := Lib.hid fun W => rTurns_any q.k W
          have TE : Hid (turnsB q.k = (sysOf ps).turn i) := Lib.hid (by rw [HQ.out]; rfl)
          have D50 : Hid (Calls Tryz.prog 50 #[.slice (some ⟨pb, po, none⟩) n pc, .slice (some ⟨gD, 0, none⟩) n c5, .int .i64 i] wi fun x w' => x = .returned (.bool (readyL ps e' i)) ∧ Below wi.heap.size wi w') := Lib.hid (ready_any _ _ pc c5 n n i ps e' wi HN.out HN.out HOB.out.len hip HI.out.sys.small (HI.out.pts.below HOB.out.bel (Nat.le_refl _)) (own_sl HOB.out.own))
          have RE : Hid (readyL ps e' i = true ↔ Ready (sysOf ps) e' i) := Lib.hid (ready_iff HI.out.sys hip)
          generalize turnsB q.k = tb at D49 TE
          generalize readyL ps e' i = rb at D50 RE
          cases eb
          · cases tb
            · cases rb
              · have HX := Lib.hid (SKIP.out (fun _ _ hr => absurd (RE.out.2 hr) (by decide)))
                go_wp2_with (first
                  | (go_at_call 49; ((with_reducible refine (D49.out _).mono ?_); rintro e w' ⟨rfl, rfl⟩))
                  | (go_at_call 50; ((with_reducible refine (D50.out).mono ?_); rintro e w2 ⟨rfl, hb2⟩; have HB2 := Lib.hid hb2; clear hb2)))
                refine ⟨⟨i + 1, e', m', rfl, by go_num, by omega, HOB.out.later HB2.out, HX.out, H2.out⟩, ?_⟩
                simp [intOf]; omega
              · obtain ⟨an, han⟩ : ∃ an, an = doA g (opOf q) := ⟨_, rfl⟩
                have HAN := Lib.hid han
                clear han
                have D15 : Hid (∀ W, Below wi.heap.size wi W → Calls Tryz.prog 15 #[.slice G k gc, .agg #[.int .i64 q.k, .int .i64 q.u, .int .i64 q.v, .int .u64 q.x]] W fun e w' => ∃ X gl dd C fq, e = .returned (.tuple #[.slice X gl dd, .agg #[.int .i64 an.err, .bool an.is, .int .i64 an.n, .int .u64 an.w, .slice C an.list.length fq]]) ∧ Below W.heap.size W w') := Lib.hid fun W hW => by
                  have := refDo_any G gc k g (opOf q) W HK.out (HI.out.gr.below (HOB.out.bel.trans (hW.mono HOB.out.bel.size)) (Nat.le_refl _)) HI.out.rises (by have := HI.out.few; omega) (HI.out.sys.fine q (by rw [HQ.out]; exact ptAt_mem hip))
                  refine this.mono ?_
                  rintro e w' ⟨X, dd, C, fq, rfl, _, _, hb⟩
                  exact ⟨X, _, dd, C, fq, by rw [HAN.out]; rfl, hb⟩
                have Y0 := Lib.hid y0
                have Y1 := Lib.hid y1
                have Y2 := Lib.hid y2
                have Y3 := Lib.hid y3
                have Y4 := Lib.hid y4
                have Y5 := Lib.hid y5
                have Y6 := Lib.hid y6
                have Y7 := Lib.hid y7
                have Y8 := Lib.hid y8
                have Y9 := Lib.hid y9
                have Y10 := Lib.hid y10
                have Y11 := Lib.hid y11
                have Y12 := Lib.hid y12
                have Y13 := Lib.hid y13
                clear y4 y5 y6 y7 y8 y9 y10 y11 y12 y13
                go_wp2_with (first
                  | (go_at_call 49; ((with_reducible refine (D49.out _).mono ?_); rintro e w' ⟨rfl, rfl⟩))
                  | (go_at_call 50; ((with_reducible refine (D50.out).mono ?_); rintro e w2 ⟨rfl, hb2⟩; have HB2 := Lib.hid hb2; have z0 := cellL y0 hb2; have z1 := cellL y1 hb2; have z2 := cellL y2 hb2; have z3 := cellL y3 hb2; clear hb2))
                  | (go_at_call 15; ((with_reducible refine (D15.out _ HB2.out).mono ?_); rintro e w3 ⟨X, gl, dd, C, fq, rfl, hb3⟩; have HB3 := Lib.hid (HB2.out.trans (hb3.mono HB2.out.size)); clear hb3)))
                clear z0 z1 z2 z3 HB2 D15 D49 D50 y0 y1 y2 y3 c0
                obtain ⟨fb, hfb⟩ : ∃ fb, fb = fitR q an := ⟨_, rfl⟩
                have HFB := Lib.hid hfb
                clear hfb
                have B4 := Lib.hid (HB3.out.alloc HB3.out.size (.cells #[.int .i64 an.err, .bool an.is, .int .i64 an.n, .int .u64 an.w, .slice C an.list.length fq] 41))
                have OT := Lib.hid (OutAt.new w3 an C fq 41)
                generalize w3.alloc (.cells #[.int .i64 an.err, .bool an.is, .int .i64 an.n, .int .u64 an.w, .slice C an.list.length fq] 41) = w4 at *
                obtain ⟨b2, hb2⟩ : ∃ b2, b2 = w3.heap.size := ⟨_, rfl⟩
                rw [← hb2] at OT ⊢
                clear hb2
                have KK : Hid (∀ W : World, Below w4.heap.size w4 W → (W.cell? ⟨pb, po + i * 14, none⟩ = some (.int .i64 q.k) ∧ W.cell? ⟨pb, po + i * 14 + 1, none⟩ = some (.int .i64 q.u) ∧ W.cell? ⟨pb, po + i * 14 + 2, none⟩ = some (.int .i64 q.v) ∧ W.cell? ⟨pb, po + i * 14 + 3, none⟩ = some (.int .u64 q.x) ∧ W.cell? ⟨pb, po + i * 14 + 4, none⟩ = some (.int .i64 q.err) ∧ W.cell? ⟨pb, po + i * 14 + 5, none⟩ = some (.bool q.is) ∧ W.cell? ⟨pb, po + i * 14 + 6, none⟩ = some (.int .i64 q.n) ∧ W.cell? ⟨pb, po + i * 14 + 7, none⟩ = some (.int .u64 q.w) ∧ W.cell? ⟨pb, po + i * 14 + 8, none⟩ = some (.slice none 0 0) ∧ W.cell? ⟨pb, po + i * 14 + 9, none⟩ = some (.bool q.any) ∧ W.cell? ⟨pb, po + i * 14 + 10, none⟩ = some (.int .i64 q.fr) ∧ W.cell? ⟨pb, po + i * 14 + 11, none⟩ = some (.int .i64 q.to) ∧ W.cell? ⟨pb, po + i * 14 + 12, none⟩ = some (.int .i64 q.era) ∧ W.cell? ⟨pb, po + i * 14 + 13, none⟩ = some (.bool q.must) ∧ W.cell? ⟨b2, 0, none⟩ = some (.int .i64 an.err) ∧ W.cell? ⟨b2, 1, none⟩ = some (.bool an.is) ∧ W.cell? ⟨b2, 2, none⟩ = some (.int .i64 an.n) ∧ W.cell? ⟨b2, 3, none⟩ = some (.int .u64 an.w) ∧ W.cell? ⟨b2, 4, none⟩ = some (.slice C an.list.length fq) ∧ Below w4.heap.size w4 W)) := Lib.hid fun W h => ⟨cellL Y0.out (B4.out.trans (h.mono B4.out.size)), cellL Y1.out (B4.out.trans (h.mono B4.out.size)), cellL Y2.out (B4.out.trans (h.mono B4.out.size)), cellL Y3.out (B4.out.trans (h.mono B4.out.size)), cellL Y4.out (B4.out.trans (h.mono B4.out.size)), cellL Y5.out (B4.out.trans (h.mono B4.out.size)), cellL Y6.out (B4.out.trans (h.mono B4.out.size)), cellL Y7.out (B4.out.trans (h.mono B4.out.size)), cellL Y8.out (B4.out.trans (h.mono B4.out.size)), cellL Y9.out (B4.out.trans (h.mono B4.out.size)), cellL Y10.out (B4.out.trans (h.mono B4.out.size)), cellL Y11.out (B4.out.trans (h.mono B4.out.size)), cellL Y12.out (B4.out.trans (h.mono B4.out.size)), cellL Y13.out (B4.out.trans (h.mono B4.out.size)), cellL OT.out.c0 h, cellL OT.out.c1 h, cellL OT.out.c2 h, cellL OT.out.c3 h, cellL OT.out.c4 h, h⟩
                have SS := Lib.hid (KK.out _ (Below.refl _ _).drew)
                have DF : Hid (∀ W : World, Calls Tryz.prog 51 #[.agg #[.int .i64 q.k, .int .i64 q.u, .int .i64 q.v, .int .u64 q.x, .int .i64 q.err, .bool q.is, .int .i64 q.n, .int .u64 q.w, .slice none 0 0, .bool q.any, .int .i64 q.fr, .int .i64 q.to, .int .i64 q.era, .bool q.must], .agg #[.int .i64 an.err, .bool an.is, .int .i64 an.n, .int .u64 an.w, .slice C an.list.length fq]] W fun e w' => e = .returned (.bool fb) ∧ Below W.heap.size W w') := Lib.hid fun W => by rw [HFB.out]; exact rFits_any q an C fq W
                have TRN : Hid ((sysOf ps).turn i = false) := Lib.hid TE.out.symm
                have FE : Hid ((sysOf ps).fit i g = fb) := Lib.hid (by
                  have hm : (ptAt ps i).must = true := GOOD.out.asked i hip TRN.out
                  rw [fit_sys, ← HQ.out]
                  rw [← HQ.out] at hm
                  unfold fitP
                  rw [hm, HFB.out, HAN.out]; rfl)
                have HO4 := Lib.hid (HOB.out.later B4.out)
                have fz4 : w4.frozen? ⟨gD, i, none⟩ = false := own_frozen HO4.out.own i
                have cx4 := HO4.out.cell heb
                clear fzD heb
                cases fb
                · have HX := Lib.hid (SKIP.out (fun _ _ _ => FE.out))
                  go_region_held3 (fun W => (W.cell? ⟨pb, po + i * 14, none⟩ = some (.int .i64 q.k) ∧ W.cell? ⟨pb, po + i * 14 + 1, none⟩ = some (.int .i64 q.u) ∧ W.cell? ⟨pb, po + i * 14 + 2, none⟩ = some (.int .i64 q.v) ∧ W.cell? ⟨pb, po + i * 14 + 3, none⟩ = some (.int .u64 q.x) ∧ W.cell? ⟨pb, po + i * 14 + 4, none⟩ = some (.int .i64 q.err) ∧ W.cell? ⟨pb, po + i * 14 + 5, none⟩ = some (.bool q.is) ∧ W.cell? ⟨pb, po + i * 14 + 6, none⟩ = some (.int .i64 q.n) ∧ W.cell? ⟨pb, po + i * 14 + 7, none⟩ = some (.int .u64 q.w) ∧ W.cell? ⟨pb, po + i * 14 + 8, none⟩ = some (.slice none 0 0) ∧ W.cell? ⟨pb, po + i * 14 + 9, none⟩ = some (.bool q.any) ∧ W.cell? ⟨pb, po + i * 14 + 10, none⟩ = some (.int .i64 q.fr) ∧ W.cell? ⟨pb, po + i * 14 + 11, none⟩ = some (.int .i64 q.to) ∧ W.cell? ⟨pb, po + i * 14 + 12, none⟩ = some (.int .i64 q.era) ∧ W.cell? ⟨pb, po + i * 14 + 13, none⟩ = some (.bool q.must) ∧ W.cell? ⟨b2, 0, none⟩ = some (.int .i64 an.err) ∧ W.cell? ⟨b2, 1, none⟩ = some (.bool an.is) ∧ W.cell? ⟨b2, 2, none⟩ = some (.int .i64 an.n) ∧ W.cell? ⟨b2, 3, none⟩ = some (.int .u64 an.w) ∧ W.cell? ⟨b2, 4, none⟩ = some (.slice C an.list.length fq) ∧ Below w4.heap.size w4 W))
                    (first | (with_reducible exact SS.out) | (with_reducible assumption))
                    (first | (go_at_call 51; ((with_reducible refine (DF.out _).mono ?_); rintro e w5 ⟨rfl, hb5⟩; have HB5 := Lib.hid (SS.out.2.2.2.2.2.2.2.2.2.2.2.2.2.2.2.2.2.2.2.trans (hb5.mono SS.out.2.2.2.2.2.2.2.2.2.2.2.2.2.2.2.2.2.2.2.size)); have hkk := KK.out _ HB5.out; clear hb5)))
                  go_wp2
                  refine ⟨⟨i + 1, e', m', rfl, by go_num, by omega, HO4.out.later HB5.out, HX.out, H2.out⟩, ?_⟩
                  simp [intOf]; omega
                · have HX := Lib.hid (SKIP.out)
                  go_region_held3 (fun W => (W.cell? ⟨pb, po + i * 14, none⟩ = some (.int .i64 q.k) ∧ W.cell? ⟨pb, po + i * 14 + 1, none⟩ = some (.int .i64 q.u) ∧ W.cell? ⟨pb, po + i * 14 + 2, none⟩ = some (.int .i64 q.v) ∧ W.cell? ⟨pb, po + i * 14 + 3, none⟩ = some (.int .u64 q.x) ∧ W.cell? ⟨pb, po + i * 14 + 4, none⟩ = some (.int .i64 q.err) ∧ W.cell? ⟨pb, po + i * 14 + 5, none⟩ = some (.bool q.is) ∧ W.cell? ⟨pb, po + i * 14 + 6, none⟩ = some (.int .i64 q.n) ∧ W.cell? ⟨pb, po + i * 14 + 7, none⟩ = some (.int .u64 q.w) ∧ W.cell? ⟨pb, po + i * 14 + 8, none⟩ = some (.slice none 0 0) ∧ W.cell? ⟨pb, po + i * 14 + 9, none⟩ = some (.bool q.any) ∧ W.cell? ⟨pb, po + i * 14 + 10, none⟩ = some (.int .i64 q.fr) ∧ W.cell? ⟨pb, po + i * 14 + 11, none⟩ = some (.int .i64 q.to) ∧ W.cell? ⟨pb, po + i * 14 + 12, none⟩ = some (.int .i64 q.era) ∧ W.cell? ⟨pb, po + i * 14 + 13, none⟩ = some (.bool q.must) ∧ W.cell? ⟨b2, 0, none⟩ = some (.int .i64 an.err) ∧ W.cell? ⟨b2, 1, none⟩ = some (.bool an.is) ∧ W.cell? ⟨b2, 2, none⟩ = some (.int .i64 an.n) ∧ W.cell? ⟨b2, 3, none⟩ = some (.int .u64 an.w) ∧ W.cell? ⟨b2, 4, none⟩ = some (.slice C an.list.length fq) ∧ Below w4.heap.size w4 W))
                    (first | (with_reducible exact SS.out) | (with_reducible assumption))
                    (first | (go_at_call 51; ((with_reducible refine (DF.out _).mono ?_); rintro e w5 ⟨rfl, hb5⟩; have HB5 := Lib.hid (SS.out.2.2.2.2.2.2.2.2.2.2.2.2.2.2.2.2.2.2.2.trans (hb5.mono SS.out.2.2.2.2.2.2.2.2.2.2.2.2.2.2.2.2.2.2.2.size)); have hkk := KK.out _ HB5.out; clear hb5)))
                  have HO5 := Lib.hid (HO4.out.later HB5.out)
                  have fz5 : w5.frozen? ⟨gD, i, none⟩ = false := own_frozen HO5.out.own i
                  have cx5 := cellL cx4 HB5.out
                  clear hkk
                  go_wp2
                  refine ⟨⟨i + 1, e'.set i true, true, rfl, by go_num, by omega, HO5.out.tell HI.out.sys hip HEB.out TRN.out (RE.out.1 trivial) FE.out HGD.out, fun h => (by cases h), fun _ => ?_⟩, ?_⟩
                  · have h1 := cntF_set (e := e') (i := i) (by rw [HOB.out.len]; exact hip) HEB.out
                    cases m'
                    · have := (H1.out rfl).1; subst this; omega
                    · have := H2.out rfl; omega
                  · simp [intOf]; omega
            · have HX := Lib.hid (SKIP.out (fun _ ht _ => by rw [← TE.out] at ht; cases ht))
              go_wp2_with (first
                | (go_at_call 49; ((with_reducible refine (D49.out _).mono ?_); rintro e w' ⟨rfl, rfl⟩)))
              refine ⟨⟨i + 1, e', m', rfl, by go_num, by omega, HOB.out, HX.out, H2.out⟩, ?_⟩
              simp [intOf]; omega
          · have HX := Lib.hid (SKIP.out (fun hd _ _ => by rw [HEB.out] at hd; cases hd))
            go_wp2
            refine ⟨⟨i + 1, e', m', rfl, by go_num, by omega, HOB.out, HX.out, H2.out⟩, ?_⟩
            simp [intOf]; omega
        · obtain rfl : i = n := by omega
          have C1 := Lib.hid (HOB.out.cnt HN.out)
          have C0 := Lib.hid (HOA.out.cnt HN.out)
          go_wp2
          cases m'
          · obtain ⟨he, hall⟩ := H1.out rfl
            refine ⟨⟨e', false, rfl, HOB.out, fun _ j hj h1 h2 h3 => ?_⟩, ?_⟩
            · rw [he] at h1 h3
              exact hall j (by rw [HN.out]; exact hj) h1 h2 h3
            · rw [C1.out, C0.out, he]; simp [boolOf]
          · have := H2.out rfl
            refine ⟨⟨e', true, rfl, HOB.out, fun h => by cases h⟩, ?_⟩
            rw [C1.out, C0.out]; simp [boolOf]; omega
theorem orders_any : ∀ u, OSays u := fun u => by
  induction u using Nat.strongRecOn with
  | ind u ih => exact orders_step u ih
end Go.Proofs.YtpdfmfkoopdfgaaGreatDoor
