/- LRefEnds, LTells. -/
import Derived.Test.YtpdfmfkoopdfgaaGreatDoorB41
import Derived.Test.YtpdfmfkoopdfgaaGreatDoorB43
import Derived.Test.YtpdfmfkoopdfgaaGreatDoorB44
import Derived.Deep.RegionHeld3
import Derived.Deep.QuietTactic
import Derived.BigQuiet
import Derived.Deep.CutBlock
import Derived.Test.YtpdfmfkoopdfgaaGreatDoorB34
import Derived.Test.YtpdfmfkoopdfgaaGreatDoorB39
import Derived.Test.YtpdfmfkoopdfgaaGreatDoorB38
import Derived.Test.YtpdfmfkoopdfgaaGreatDoorB20
set_option linter.unusedVariables false
set_option linter.unusedSimpArgs false
section
namespace Go.Proofs.YtpdfmfkoopdfgaaGreatDoor
set_option maxRecDepth 100000
open Go.RowKit Aid Gr Hs LinP HeapP

theorem eraN_pos {ps : List Pt} {a : Nat} (h : a < ps.length) : 0 < eraN ps a := eraLen_pos (drop_ne h)
theorem eraN_le {ps : List Pt} {a : Nat} : eraN ps a ≤ ps.length - a := by have := eraLen_le (ps.drop a); rw [List.length_drop] at this; exact this
theorem eraAt_len {ps : List Pt} {a : Nat} : (eraAt ps a).length = eraN ps a := by
  unfold eraAt
  rw [List.length_take, Nat.min_eq_left (eraLen_le _)]; rfl
theorem eraAt_mem {ps : List Pt} {a : Nat} {p : Pt} (h : p ∈ eraAt ps a) : p ∈ ps := List.mem_of_mem_drop (List.mem_of_mem_take h)
/-- What one era's points are, of a history that is right. -/
theorem era_sys {ps : List Pt} {fs : List Int} (hP : PsGood ps fs) (hf : ∀ p ∈ ps, (opOf p).Fine) (hs : ps.length ≤ 100000) {a : Nat} (ha : a < ps.length) : OSys (eraAt ps a) :=
  ⟨good_sys fun p hp => hP.good p (eraAt_mem hp), fun i j hi hj => (era_take _ (ptAt_mem hi)).trans (era_take _ (ptAt_mem hj)).symm, fun p hp => hf p (eraAt_mem hp), by rw [eraAt_len]; have := eraN_le (ps := ps) (a := a); omega, by rw [eraAt_len]; exact eraN_pos ha⟩
set_option maxHeartbeats 16000000 in
theorem refEnds_any (G : Option Addr) (gc ng : Nat) (g : List Arc) (H : Option Addr) (hc nh : Nat) (l : List Cl) (w : World) (hi : LIn w G ng g H nh l) :
    Calls Tryz.prog 12 #[.slice G ng gc, .slice H nh hc] w fun e w' => ∃ B d ys, e = .returned (.slice B ys.length d) ∧ GRd w' B ys ∧ (ys.map GSl.l).Pairwise LexLt ∧ (∀ g', g' ∈ ys.map GSl.l ↔ Ends l g g') ∧ ys.length ≤ 1000000000000 ∧ Below w.heap.size w w' := by
  have D28 : Hid (Calls Tryz.prog 28 #[.slice H nh hc] w fun e w' => e = .returned (.bool (listedB l)) ∧ Below w.heap.size w w') := Lib.hid (rListed_any H hc nh l w hi.hnh hi.hh (by have := hi.hist.few; omega) hi.hb)
  have D29 : Hid (∀ W, Below w.heap.size w W → Calls Tryz.prog 29 #[.slice H nh hc] W fun e w' => ∃ B d, e = .returned (.slice B (pointsOf l).length d) ∧ Sl w' B (flat (pointsOf l)) ∧ Below W.heap.size W w' ∧ (pointsOf l).length ≤ d) := Lib.hid fun W hW => rPoints_any H hc nh l W hi.hnh (hi.hh.below hW (Nat.le_refl _)) (by have := hi.hist.few; omega) hi.hb
  have HP := Lib.hid hi.hist.points
  have HAI := Lib.hid (hi.hist.ain hi.hr hi.few)
  have HG := Lib.hid hi.hg
  have HE : Hid (∀ g', Ends l g g' ↔ listedB l = true ∧ Chain (pointsOf l) g g') := Lib.hid fun g' => Iff.rfl
  have HR := Lib.hid hi.hr
  have HF := Lib.hid hi.few
  obtain rfl := hi.hng
  clear hi
  generalize Ends l g = EN at HE ⊢
  cases hq : listedB l
  · rw [hq] at D28 HE
    clear hq
    go_enter Tryz.func12, Tryz.ntmps12
    go_wp2_with (go_at_call 28; ((with_reducible refine D28.out.mono ?_); rintro e w1 ⟨rfl, hb1⟩; have HB1 := Lib.hid hb1; clear hb1))
    go_ret
    exact ⟨none, 0, [], rfl, ⟨fun h => by simp at h, fun x h => by cases h⟩, List.Pairwise.nil, fun g' => by rw [HE.out g']; simp, by simp, HB1.out⟩
  · rw [hq] at D28 HE
    clear hq
    generalize pointsOf l = ps0 at D29 HP HAI HE
    generalize (l.map fun c => c.fr) = fs at HP
    obtain ⟨N, hN⟩ : ∃ N, N = ps0.length := ⟨_, rfl⟩
    rw [← hN] at D29
    have HN := Lib.hid hN
    have nb : N ≤ 100000 := by have := HAI.out.small; omega
    clear hN
    go_enter Tryz.func12, Tryz.ntmps12
    go_wp2_with (first
      | (go_at_call 28; ((with_reducible refine D28.out.mono ?_); rintro e w1 ⟨rfl, hb1⟩; have HB1 := Lib.hid hb1; clear hb1))
      | (go_at_call 29; ((with_reducible refine (D29.out _ HB1.out).mono ?_); rintro e w2 ⟨P0, pc, rfl, hp2, hb2, hr2⟩; have HP2 := Lib.hid hp2; have HB2 := Lib.hid (HB1.out.trans (hb2.mono HB1.out.size)); have HR2 := Lib.hid hr2; clear hp2 hb2 hr2)))
    have rn : N ≤ pc := HR2.out
    have I0 : Hid (GRd (w2.alloc (.cells #[.slice G g.length gc] 22)) (some ⟨w2.heap.size, 0, none⟩) [⟨G, gc, g⟩]) := Lib.hid (by
      refine ⟨one_val w2 _ 22 _ rfl, fun x hx => ?_⟩
      rw [List.mem_singleton] at hx
      subst hx
      exact ⟨HG.out.below (HB2.out.alloc HB2.out.size _) (Nat.le_refl _), by have := HF.out; show g.length ≤ 1000; omega⟩)
    have BA := Lib.hid ((Below.refl w2.heap.size w2).alloc (Nat.le_refl _) (.cells #[.slice G g.length gc] 22))
    go_loopw [7, 8] (fun x7 x8 wr => ∃ (a : Nat) (xs : List GSl) (F : Option Addr) (fc : Nat), x7 = .slice F xs.length fc ∧ x8 = .int .i64 a ∧ ES fs ps0 g a (xs.map GSl.l) ∧ GRd wr F xs ∧ Below w2.heap.size w2 wr) (fun _ x8 _ => N - (intOf x8).toNat)
    case atStart => exact ⟨0, [⟨G, gc, g⟩], _, 1, rfl, rfl, ES.start fs ps0 g HR.out HAI.out.few, I0.out, BA.out⟩
    case round =>
      obtain ⟨a, xs, F, fc, rfl, rfl, hes, hgr, hbl⟩ := hrel
      clear I0 BA D28 D29
      have HES := Lib.hid hes
      have HGR := Lib.hid hgr
      have HBL := Lib.hid hbl
      clear hes hgr hbl
      obtain ⟨wa, hwa⟩ : ∃ wa, wa = wr := ⟨_, rfl⟩
      subst hwa
      by_cases hlt : a < N
      · have hap : a < ps0.length := by rw [← HN.out]; exact hlt
        have HAP := Lib.hid hap
        obtain ⟨pb, po, hP0, y0, y1, y2, y3, y4, y5, y6, y7, y8, y9, y10, y11, y12, y13⟩ := sl_pt (HP2.out.below HBL.out (Nat.le_refl _)) (ptAt_some hap)
        subst hP0
        clear y0 y1 y2 y3 y4 y5 y6 y7 y8 y9 y10 y11 y13 hap
        obtain ⟨ea, hea⟩ : ∃ ea, ea = (ptAt ps0 a).era := ⟨_, rfl⟩
        rw [← hea] at y12
        have HEA := Lib.hid hea
        have Y12 := Lib.hid y12
        clear hea y12
        have a0 : (0 : Int) ≤ (a : Int) := by omega
        have a1 : (a : Int) < (N : Int) := by omega
        obtain ⟨n, hn⟩ : ∃ n, n = eraN ps0 a := ⟨_, rfl⟩
        have HNN := Lib.hid hn
        have n0 : 0 < n := by rw [hn]; exact eraN_pos HAP.out
        have n1 : a + n ≤ N := by have := eraN_le (ps := ps0) (a := a); have := HN.out; omega
        clear hn
        obtain ⟨e1, he1⟩ : ∃ e1, e1 = a + n := ⟨_, rfl⟩
        have HE1 := Lib.hid he1
        rw [← he1] at n1
        have n2 : a < e1 := by omega
        clear he1
        go_upto_block 2 with (fail)
        go_cut [9] from 20 to 65 (fun x9 wx => x9 = .int .i64 (e1 : Int) ∧ Below wa.heap.size wa wx)
        case first =>
          go_wp2_with (fail)
          go_loopw [9] (fun x9 wr => ∃ e : Nat, a ≤ e ∧ e ≤ N ∧ x9 = .int .i64 e ∧ (∀ j, a ≤ j → j < e → (ptAt ps0 j).era = (ptAt ps0 a).era) ∧ Below wa.heap.size wa wr) (fun x9 _ => N - (intOf x9).toNat)
          case atStart => exact ⟨a, Nat.le_refl _, by omega, rfl, fun j h1 h2 => by omega, Below.refl _ _⟩
          case round =>
            obtain ⟨e, hae, heN, rfl, hall, hb⟩ := hrel
            have HALL := Lib.hid hall
            have HB := Lib.hid hb
            clear hall hb
            obtain ⟨we, hwe⟩ : ∃ we, we = wr := ⟨_, rfl⟩
            subst hwe
            by_cases hle : e < N
            · have hep : e < ps0.length := by rw [← HN.out]; exact hle
              obtain ⟨pb', po', hP1, y0, y1, y2, y3, y4, y5, y6, y7, y8, y9, y10, y11, y12, y13⟩ := sl_pt (HP2.out.below (HBL.out.trans (HB.out.mono HBL.out.size)) (Nat.le_refl _)) (ptAt_some hep)
              injection hP1 with hP1
              injection hP1 with e1 e2 e3
              subst e1 e2
              clear y0 y1 y2 y3 y4 y5 y6 y7 y8 y9 y10 y11 y13 hep e3
              have z12 := cellL Y12.out HB.out
              obtain ⟨ee, hee⟩ : ∃ ee, ee = (ptAt ps0 e).era := ⟨_, rfl⟩
              rw [← hee] at y12
              have HEE := Lib.hid hee
              clear hee
              have i0 : (0 : Int) ≤ (e : Int) := by omega
              have i1 : (e : Int) < (N : Int) := by omega
              have iz : IntKind.i64.wrap ((e : Int) + 1) = (e : Int) + 1 := by rw [IntKind.wrap_i64] <;> omega
              have BD : Hid (∀ q, Below wa.heap.size wa (we.drewN q)) := Lib.hid fun q => below_drewN HB.out q
              by_cases her : ee = ea
              · have f1 : (ee == ea) = true := by simpa using her
                have HX : Hid (∀ j, a ≤ j → j < e + 1 → (ptAt ps0 j).era = (ptAt ps0 a).era) := Lib.hid fun j h1 h2 => by
                  rcases Nat.lt_or_ge j e with q | q
                  · exact HALL.out j h1 q
                  · obtain rfl : j = e := by omega
                    rw [← HEE.out, ← HEA.out]; exact her
                clear her
                go_wp2
                go_quiet (fail)
                go_wp2
                refine ⟨⟨e + 1, by omega, by omega, by go_num, HX.out, BD.out _⟩, ?_⟩
                simp [intOf]; omega
              · have f1 : (ee == ea) = false := by simpa using her
                have HX : Hid (e = e1) := Lib.hid (by rw [HE1.out, HNN.out]; exact eraLen_at HAP.out hae (by have := HN.out; omega) HALL.out (.inr (by rw [← HEE.out, ← HEA.out]; exact her)))
                clear her
                go_wp2
                go_quiet (fail)
                go_wp2
                go_meet
                exact ⟨by rw [HX.out], BD.out _⟩
            · have HX : Hid (e = e1) := Lib.hid (by rw [HE1.out, HNN.out]; exact eraLen_at HAP.out hae (by have := HN.out; omega) HALL.out (.inl (by have := HN.out; omega)))
              obtain rfl : e = N := by omega
              have BD : Hid (∀ q, Below wa.heap.size wa (we.drewN q)) := Lib.hid fun q => below_drewN HB.out q
              go_wp2
              go_quiet (fail)
              go_wp2
              go_meet
              exact ⟨by rw [← HX.out], BD.out _⟩
        case rest =>
          obtain ⟨rfl, hb⟩ := hcut
          have HB := Lib.hid hb
          clear hb
          have HSY := Lib.hid (era_sys HP.out HAI.out.fine HAI.out.small HAP.out)
          have HLEN : Hid (n = (eraAt ps0 a).length) := Lib.hid (by rw [eraAt_len]; exact HNN.out)
          have HLIM := Lib.hid (HES.out.lim HP.out HAP.out)
          obtain ⟨nx, hnx⟩ : ∃ nx, nx = xs.length := ⟨_, rfl⟩
          have nxb : nx ≤ 1000000000000 := by have := HES.out.few HP.out; rw [List.length_map] at this; omega
          have HNX := Lib.hid hnx
          rw [← hnx]
          clear hnx
          go_wp2
          go_loopw [10, 11] (fun x10 x11 wr => ∃ (i : Nat) (ys : List GSl) (Y : Option Addr) (yc : Nat), x10 = .slice Y ys.length yc ∧ x11 = .int .i64 i ∧ i ≤ nx ∧ EA (sysOf (eraAt ps0 a)) (xs.map GSl.l) i (ys.map GSl.l) ∧ GRd wr Y ys ∧ Below wa.heap.size wa wr) (fun _ x11 _ => nx - (intOf x11).toNat)
          case atStart => exact ⟨0, [], none, 0, rfl, rfl, Nat.zero_le _, EA.start _ _, ⟨fun h => by simp at h, fun x h => by cases h⟩, HB.out⟩
          case round =>
            obtain ⟨i, ys, Y, yc, rfl, rfl, hi, hea, hgy, hbi⟩ := hrel
            have HEA2 := Lib.hid hea
            have HGY := Lib.hid hgy
            have HBI := Lib.hid hbi
            clear hea hgy hbi
            obtain ⟨wi, hwi⟩ : ∃ wi, wi = wr := ⟨_, rfl⟩
            subst hwi
            by_cases hli : i < nx
            · obtain ⟨x, hx⟩ : ∃ x, xs[i]? = some x := ⟨xs[i]'(by rw [← HNX.out]; exact hli), List.getElem?_eq_getElem _⟩
              obtain ⟨fb, fo, hF, c0⟩ := (HGR.out.below HBI.out (Nat.le_refl _)).cell hx
              subst hF
              have HXL : Hid ((xs.map GSl.l)[i]? = some x.l) := Lib.hid (by rw [List.getElem?_map, hx]; rfl)
              have HXO := Lib.hid ((HGR.out.below HBI.out (Nat.le_refl _)).2 x (List.mem_of_getElem? hx))
              have HXM : Hid (x.l ∈ xs.map GSl.l) := Lib.hid (List.mem_map.2 ⟨x, List.mem_of_getElem? hx, rfl⟩)
              clear hx
              have D30 : Hid (∀ (W : World) (q : Nat), Sl W (some ⟨q, 0, none⟩) ((zerosD n).map Value.bool) → Below wi.heap.size wi W → Calls Tryz.prog 30 #[.slice (some ⟨pb, po + a * 14, none⟩) n (pc - a), .slice (some ⟨q, 0, none⟩) n n, .slice x.A x.l.length x.c, .slice Y ys.length yc] W fun e w' => ∃ B f zs, e = .returned (.slice B zs.length f) ∧ GRd w' B zs ∧ EA (sysOf (eraAt ps0 a)) (xs.map GSl.l) (i + 1) (zs.map GSl.l) ∧ Below wi.heap.size wi w') := Lib.hid fun W q hq hW2 => by
                have hp : Sl wi (some ⟨pb, po + a * 14, none⟩) (Hs.flat (eraAt ps0 a)) := sl_take (sl_drop (HP2.out.below (HBL.out.trans (HBI.out.mono HBL.out.size)) (Nat.le_refl _)) a (by have := HN.out; omega)) _
                have hlx := HES.out.len x.l HXM.out
                have htz : tn (eraAt ps0 a) ≤ tn (ps0.drop a) := by have := tn_split (ps0.drop a) (eraLen (ps0.drop a)); unfold eraAt; omega
                have hund : und (sysOf (eraAt ps0 a)) (zerosD n) = tn (eraAt ps0 a) := by
                  have := und_zeros (eraAt ps0 a) (eraAt ps0 a).length
                  rw [← HLEN.out] at this; exact this
                have hin : OIn W (some ⟨pb, po + a * 14, none⟩) (some ⟨q, 0, none⟩) x.A Y (eraAt ps0 a) (zerosD n) x.l ys (fun m => ∃ r ∈ xs.map GSl.l, LinP.Ord (sysOf (eraAt ps0 a)) r m) :=
                  ⟨HSY.out, hp.below hW2 (Nat.le_refl _), hq, by rw [zerosD_length]; exact HLEN.out, HXO.out.1.below hW2 (Nat.le_refl _), hlx.1, by rw [hund]; omega, HGY.out.below hW2 (Nat.le_refl _), HEA2.out.srt, HLIM.out, fun y hy => ?_, fun g' hg' => ⟨x.l, HXM.out, ?_⟩⟩
                · refine (orders_any (und (sysOf (eraAt ps0 a)) (zerosD n)) _ _ _ _ (pc - a) n x.c yc n n _ _ (eraAt ps0 a) (zerosD n) x.l ys _ _ HLEN.out HLEN.out rfl rfl (Nat.le_refl _) hin).mono ?_
                  rintro e w' ⟨B, f, zs, rfl, q1, q2, q3, q4⟩
                  refine ⟨B, f, zs, rfl, q1, HEA2.out.next HXL.out q2 (fun g' => ?_), hW2.trans (q4.mono hW2.size)⟩
                  rw [q3 g']
                  have hz : zerosD n = zeros (sysOf (eraAt ps0 a)) := by unfold zerosD zeros; rw [HLEN.out]; rfl
                  rw [hz]; exact Iff.rfl
                · obtain ⟨m, hm, ho⟩ := (HEA2.out.mem y.l).1 (List.mem_map.2 ⟨y, hy, rfl⟩)
                  exact ⟨m, List.mem_of_mem_take hm, ho⟩
                · have hz : zerosD n = zeros (sysOf (eraAt ps0 a)) := by unfold zerosD zeros; rw [HLEN.out]; rfl
                  rw [hz] at hg'; exact hg'
              have i0 : (0 : Int) ≤ (i : Int) := by omega
              have i1 : (i : Int) < (nx : Int) := by omega
              have iz : IntKind.i64.wrap ((i : Int) + 1) = (i : Int) + 1 := by rw [IntKind.wrap_i64] <;> omega
              have nb2 : n ≤ 100000 := by have := HE1.out; omega
              have sz : IntKind.i64.wrap ((e1 : Int) - (a : Int)) = (n : Int) := by have := HE1.out; rw [IntKind.wrap_i64] <;> omega
              have mk := make34 n nb2 wi.drew
              have p0 : a ≤ e1 := by omega
              have p1 : e1 ≤ pc := by omega
              have p2 : (a : Int) ≤ (e1 : Int) := by omega
              have p3 : (e1 : Int) ≤ (pc : Int) := by omega
              have p4 : ¬ (pc = a) := by omega
              have p5 : a ≤ pc := by omega
              have a2 : e1 - a = n := by have := HE1.out; omega
              have KK : Hid (∀ W : World, Below wi.heap.size wi W → W.cell? ⟨fb, fo + i, none⟩ = some (.slice x.A x.l.length x.c) ∧ Below wi.heap.size wi W) := Lib.hid fun W h => ⟨cellL c0 h, h⟩
              have SS := Lib.hid (KK.out _ (Below.refl _ _).drew)
              have SM := Lib.hid (KK.out _ ((Below.refl wi.heap.size wi).alloc (Nat.le_refl _) (.cells (madeCells #[.bool false] n) 4)).drew)
              have DX := Lib.hid (D30.out (wi.alloc (.cells (madeCells #[.bool false] n) 4)).drew wi.heap.size ((made_sl n wi).below (Below.refl _ _).drew (Nat.le_refl _)) SM.out.2)
              clear D30
              go_wp2_with (fail)
              go_region_held3 (fun W => W.cell? ⟨fb, fo + i, none⟩ = some (.slice x.A x.l.length x.c) ∧ Below wi.heap.size wi W)
                (first | (with_reducible exact SS.out) | (with_reducible exact SM.out) | (with_reducible assumption))
                (first | (go_at_call 30; ((with_reducible refine DX.out.mono ?_); rintro e w5 ⟨B5, f5, zs, rfl, q1, q2, q3⟩; have Q1 := Lib.hid q1; have Q2 := Lib.hid q2; have Q3 := Lib.hid (HBI.out.trans (q3.mono HBI.out.size)); have hkk := KK.out w5 q3; clear q1 q2 q3)))
              clear hkk
              go_wp2
              refine ⟨⟨i + 1, zs, B5, f5, by first | rfl | trivial, by first | go_num | trivial, by omega, Q2.out, Q1.out, Q3.out⟩, ?_⟩
              simp [intOf]; omega
            · obtain rfl : nx = i := by omega
              have HX : Hid (ES fs ps0 g e1 (ys.map GSl.l)) := Lib.hid (by
                rw [HE1.out, HNN.out]
                refine HES.out.next HP.out HAP.out HEA2.out.srt (fun g' => ?_)
                rw [HEA2.out.mem g', List.take_of_length_le (by rw [List.length_map, ← HNX.out]; exact Nat.le_refl _)])
              go_wp2
              refine ⟨⟨e1, ys, Y, yc, by first | rfl | trivial, by first | rfl | trivial, HX.out, HGY.out, HBL.out.trans (HBI.out.mono HBL.out.size)⟩, ?_⟩
              simp [intOf]; omega
      · obtain rfl : N = a := by have := HES.out.le; have := HN.out; omega
        have HX : Hid (∀ g', g' ∈ xs.map GSl.l ↔ EN g') := Lib.hid fun g' => by
          have hd : ps0.drop N = [] := List.drop_eq_nil_of_le (by rw [← HN.out]; exact Nat.le_refl _)
          rw [HE.out g', HES.out.chain g', hd]
          constructor
          · exact fun h => ⟨by first | rfl | trivial, g', h, .done _⟩
          · rintro ⟨_, m, hm, hc⟩
            cases hc with
            | done => exact hm
            | era h => exact absurd rfl h
        go_wp2
        go_ret
        exact ⟨F, fc, xs, rfl, HGR.out, HES.out.srt, HX.out, by have := HES.out.few HP.out; rwa [List.length_map] at this, HB2.out.trans (HBL.out.mono HB2.out.size)⟩
end Go.Proofs.YtpdfmfkoopdfgaaGreatDoor
end
section
namespace Go.Proofs.YtpdfmfkoopdfgaaGreatDoor
set_option maxRecDepth 100000
open Go.RowKit Aid Gr Hs LinP HeapP

theorem same_len {xs ys : List GSl} (h : xs.map GSl.l = ys.map GSl.l) : xs.length = ys.length := by have := congrArg List.length h; rwa [List.length_map, List.length_map] at this
set_option maxHeartbeats 4000000 in
theorem linTells_any (G : Option Addr) (gc ng : Nat) (g : List Arc) (H : Option Addr) (hc nh : Nat) (l : List Cl) (w : World) (hng : ng = g.length) (hnh : nh = l.length) (hg : Arcs w G g) (hh : Cls w H l) (hb : ∀ a ∈ l, a.list.length ≤ 9223372036854775807) (hf : ∀ c ∈ l, c.Fine) (h40 : nh ≤ 9223372036854775807) (ht : Tab w) :
    Calls Tryz.prog 3 #[.slice G ng gc, .slice H nh hc] w fun e w' => e = .returned (.bool true) ∧ Below w.heap.size w w' := by
  have D8 := Lib.hid (shown_any w ht)
  have HNG := Lib.hid hng
  have HNH := Lib.hid hnh
  have HG := Lib.hid hg
  have HH := Lib.hid hh
  have HB0 := Lib.hid hb
  have HF := Lib.hid hf
  have HT := Lib.hid ht
  have H40 := Lib.hid h40
  clear hng hnh hg hh hb hf h40 ht
  by_cases h10 : (10 : Int) < (ng : Int)
  · have f10 : decide ((10 : Int) < (ng : Int)) = true := decide_eq_true h10
    clear h10
    go_enter Tryz.func3, Tryz.ntmps3
    go_wp2_with (go_at_call 8; ((with_reducible refine D8.out.mono ?_); rintro e w1 ⟨rfl, hb1⟩; have HB1 := Lib.hid hb1; clear hb1))
    go_ret
    exact ⟨rfl, HB1.out⟩
  · have f10 : decide ((10 : Int) < (ng : Int)) = false := decide_eq_false h10
    have HSM : Hid (g.length ≤ 10) := Lib.hid (by have := HNG.out; omega)
    have D9 : Hid (∀ W, Below w.heap.size w W → Calls Tryz.prog 9 #[.slice G ng gc] W fun e w' => e = .returned (.bool (Gr.rightB g)) ∧ Below W.heap.size W w') := Lib.hid fun W hW => Gr.refRight_any G gc ng g W HNG.out (HG.out.below hW (Nat.le_refl _)) (by have := HSM.out; omega)
    clear h10
    obtain ⟨r, hr⟩ : ∃ r, Gr.rightB g = r := ⟨_, rfl⟩
    rw [hr] at D9
    have HR := Lib.hid hr
    clear hr
    cases r
    · go_enter Tryz.func3, Tryz.ntmps3
      go_wp2_with (first
        | (go_at_call 8; ((with_reducible refine D8.out.mono ?_); rintro e w1 ⟨rfl, hb1⟩; have HB1 := Lib.hid hb1; clear hb1))
        | (go_at_call 9; ((with_reducible refine (D9.out _ HB1.out).mono ?_); rintro e w2 ⟨rfl, hb2⟩; have HB2 := Lib.hid (HB1.out.trans (hb2.mono HB1.out.size)); clear hb2)))
      go_ret
      exact ⟨rfl, HB2.out⟩
    · have HRG : Hid (Rises g) := Lib.hid (R.of (Gr.right_of HR.out)).1
      have D10 : Hid (∀ W, Below w.heap.size w W → Calls Tryz.prog 10 #[.slice H nh hc, .int .i64 7] W fun e w' => ∃ b : Bool, e = .returned (.bool b) ∧ (b = true → Hs.RightP l ∧ (nh : Int) ≤ 7) ∧ Below W.heap.size W w') := Lib.hid fun W hW => small_any H hc nh l 7 W HNH.out (HH.out.below hW (Nat.le_refl _)) H40.out
      have IN : Hid (∀ W, Below w.heap.size w W → Hs.RightP l → (nh : Int) ≤ 7 → LIn W G ng g H nh l) := Lib.hid fun W hW h1 h2 => (LIn.mk HNG.out HNH.out HG.out HRG.out (by have := HSM.out; omega) HH.out HB0.out HT.out ⟨h1, by have := HNH.out; omega, HF.out⟩).below hW (Nat.le_refl _)
      go_enter Tryz.func3, Tryz.ntmps3
      go_upto_region 3 with (first
        | (go_at_call 8; ((with_reducible refine D8.out.mono ?_); rintro e w1 ⟨rfl, hb1⟩; have HB1 := Lib.hid hb1; clear hb1))
        | (go_at_call 9; ((with_reducible refine (D9.out _ HB1.out).mono ?_); rintro e w2 ⟨rfl, hb2⟩; have HB2 := Lib.hid (HB1.out.trans (hb2.mono HB1.out.size)); clear hb2))
        | (go_at_call 10; ((with_reducible refine (D10.out _ HB2.out).mono ?_); rintro e w3 ⟨b3, rfl, hs3, hb3⟩; have HS3 := Lib.hid hs3; have HB3 := Lib.hid (HB2.out.trans (hb3.mono HB2.out.size)); clear hs3 hb3)))
      · go_wp2
        go_ret
        exact ⟨rfl, HB3.out⟩
      · have h7 := HS3.out (by have := ‹(!b3) = false›; simpa using this)
        have HLI := Lib.hid (IN.out w3 HB3.out h7.1 h7.2)
        have D11 := Lib.hid (ends_any G gc ng g H hc nh l w3 HLI.out)
        have D12 : Hid (∀ W, Below w3.heap.size w3 W → Calls Tryz.prog 12 #[.slice G ng gc, .slice H nh hc] W fun e w' => ∃ B d ys, e = .returned (.slice B ys.length d) ∧ GRd w' B ys ∧ (ys.map GSl.l).Pairwise LexLt ∧ (∀ g', g' ∈ ys.map GSl.l ↔ Ends l g g') ∧ ys.length ≤ 1000000000000 ∧ Below W.heap.size W w') := Lib.hid fun W hW => refEnds_any G gc ng g H hc nh l W (HLI.out.below hW (Nat.le_refl _))
        have D14 : Hid (∀ (W : World) (k : Nat) (zs : List GSl), Below w3.heap.size w3 W → k = zs.length → (∀ g', g' ∈ zs.map GSl.l ↔ Ends l g g') → Calls Tryz.prog 14 #[.slice G ng gc, .slice H nh hc] W fun e w' => e = .returned (.bool (decide ((0 : Int) < (k : Int)))) ∧ Below W.heap.size W w') := Lib.hid fun W k zs hW hk hz => order_says G gc ng g H hc nh l W (HLI.out.below hW (Nat.le_refl _)) _ (by
          rw [decide_eq_true_iff]
          constructor
          · intro h
            obtain ⟨x, hx⟩ := List.exists_mem_of_length_pos (l := zs) (by omega)
            exact ⟨x.l, (hz x.l).1 (List.mem_map.2 ⟨x, hx, rfl⟩)⟩
          · rintro ⟨x, hx⟩
            have := List.length_pos_of_mem ((hz x).2 hx)
            rw [List.length_map] at this
            omega)
        clear h7
        go_wp2_with (first
          | (go_at_call 11; ((with_reducible refine D11.out.mono ?_); rintro e w4 ⟨B4, d4, ys, rfl, y1, y2, y3, y4⟩; have Y1 := Lib.hid y1; have Y2 := Lib.hid y2; have Y3 := Lib.hid y3; have Y4 := Lib.hid y4; clear y1 y2 y3 y4))
          | (go_at_call 12; ((with_reducible refine (D12.out w4 Y4.out).mono ?_); rintro e w5 ⟨B5, d5, zs, rfl, z1, z2, z3, z4, z5⟩; have Z1 := Lib.hid z1; have Z3 := Lib.hid z3; have HE := Lib.hid (rises_ext Y2.out z2 (fun g' => (Y3.out g').trans (z3 g').symm)); have HN := Lib.hid (Nat.le_trans (Nat.le_of_eq (same_len HE.out)) z4); have Z5 := Lib.hid (Y4.out.trans (z5.mono Y4.out.size)); have Y5 := Lib.hid (Y1.out.below z5 (Nat.le_refl _)); obtain ⟨k, hk⟩ : ∃ k, k = zs.length := ⟨_, rfl⟩; rw [← hk]; have HK := Lib.hid hk; clear z1 z2 z3 z4 z5 hk))
          | (go_at_call 13; ((with_reducible refine (all13_any B4 B5 d4 d5 _ _ ys zs w5 rfl HK.out Y5.out Z1.out HE.out HN.out).mono ?_); rintro e w6 ⟨rfl, hb6⟩; have HB6 := Lib.hid (Z5.out.trans (hb6.mono Z5.out.size)); clear hb6))
          | (go_at_call 14; ((with_reducible refine (D14.out w6 k zs HB6.out HK.out Z3.out).mono ?_); rintro e w7 ⟨rfl, hb7⟩; have HB7 := Lib.hid (HB6.out.trans (hb7.mono HB6.out.size)); clear hb7)))
        go_ret
        exact ⟨by first | rfl | simp, HB3.out.trans (HB7.out.mono HB3.out.size)⟩
end Go.Proofs.YtpdfmfkoopdfgaaGreatDoor
end
