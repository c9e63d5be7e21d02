/- LLive. -/
import Derived.Test.YtpdfmfkoopdfgaaGreatDoorB37
import Derived.Test.YtpdfmfkoopdfgaaGreatDoorB38
import Derived.Test.YtpdfmfkoopdfgaaGreatDoorB20
import Derived.Test.YtpdfmfkoopdfgaaGreatDoorB09
import Derived.Test.YtpdfmfkoopdfgaaGreatDoorB39
import Derived.Test.YtpdfmfkoopdfgaaGreatDoorB33
import Derived.Deep.RegionHeld3
import Derived.Deep.QuietTactic
import Derived.BigQuiet
import Derived.Deep.CutRange
import Derived.StillTailTactics
set_option linter.unusedVariables false
set_option linter.unusedSimpArgs false
namespace Go.Proofs.YtpdfmfkoopdfgaaGreatDoor
set_option maxRecDepth 100000
set_option linter.unusedVariables false
set_option linter.unusedSimpArgs false
open Go.RowKit Aid Gr Hs LinP HeapP

theorem own_at {w : World} {base gk n c : Nat} {e : TypeId} {size : Nat} {xs : List Value} (h : w.ownsRow base e size (.slice (some ⟨gk, 0, none⟩) n c) n xs) {k : Nat} {u : Value} (hk : xs[k]? = some u) : w.cell? ⟨gk, k, none⟩ = some u := by
  obtain ⟨b, off, hA, hc⟩ := own_slk2 h (by have := (List.getElem?_eq_some_iff.1 hk).1; omega)
  cases hA
  have := hc _ u hk
  rwa [Nat.zero_add] at this
theorem own_blkC {w : World} {base : Nat} {e : TypeId} {size : Nat} {A : Option Addr} {n c : Nat} {xs : List Value} (h : w.ownsRow base e size (.slice A n c) n xs) (hn : 0 < n) : ∃ gk, A = some ⟨gk, 0, none⟩ ∧ base ≤ gk ∧ gk < w.heap.size := by
  rcases h.2 with ⟨_, h0⟩ | ⟨gk, cap, cur, hv, hg, _⟩
  · omega
  · injection hv with hA _ _
    subst hA
    exact ⟨gk, rfl, hg, (h.lt gk rfl).2⟩
theorem flat_cell {w : World} {base gk n c : Nat} {l : List Cl} (h : w.ownsRow base 43 13 (.slice (some ⟨gk, 0, none⟩) n c) n (flatC l)) {q : Nat} {a : Cl} (hq : l[q]? = some a) : ∀ k u, a.cells[k]? = some u → w.cell? ⟨gk, q * 13 + k, none⟩ = some u := fun k u hk => own_at h (flatC_get l hq hk)
theorem isV_02 {x : Int} (h : 0 ≤ x ∧ x ≤ 2) : Gr.isV x = true := by unfold Gr.isV; exact decide_eq_true (by omega)
/-- Between two moves. -/
def LIv (w1 : World) (gu nm no : Nat) (x6 x7 x8 x9 x11 x12 x13 : Value) (wr : World) : Prop :=
  ∃ (i era nx nh hc ng gc ga go : Nat) (H G : Option Addr) (h : List Cl) (g : List Arc) (ats : List Int) (ov : List Bool) (outs : List OV) (dn : List Dn),
    x6 = .slice H nh hc ∧ x7 = .slice G ng gc ∧ x8 = .slice (some ⟨ga, 0, none⟩) 3 3 ∧ x9 = .slice (some ⟨go, 0, none⟩) 3 3 ∧ x11 = .int .i64 era ∧ x12 = .int .i64 nx ∧ x13 = .int .i64 i ∧ i ≤ nm ∧ nx ≤ no ∧ era ≤ 2 ∧
    Live i era h g ats ov (outs.map OV.a) dn ∧ Rises g ∧ g.length ≤ i ∧ LM w1 wr H nh hc h G ng g ga ats go ov gu outs
theorem info41 : (Tryz.prog.info? 41).map (fun i => (i.zero, i.size, i.bytes)) = some (some (.agg #[.int .i64 0, .bool false, .int .i64 0, .int .u64 0, .slice none 0 0]), 5, 56) := by kernel_rfl
theorem make35 (w : World) : (Instr.makeSlice 35 (.int .i64 3) (.int .i64 3)).run Tryz.prog w = .ok (.slice (some ⟨w.heap.size, 0, none⟩) 3 3) (w.alloc (.cells (madeCells #[.int .i64 0, .bool false, .int .i64 0, .int .u64 0, .slice none 0 0] 15) 41)) := by
  obtain ⟨i0, hi0, hie⟩ := Option.map_eq_some_iff.1 info41
  have hz0 : i0.zero = some (.agg #[.int .i64 0, .bool false, .int .i64 0, .int .u64 0, .slice none 0 0]) := congrArg Prod.fst hie
  have hz1 : i0.size = 5 := congrArg (fun x => x.2.1) hie
  have hz2 : i0.bytes = 56 := congrArg (fun x => x.2.2) hie
  have := run_makeSlice (P := Tryz.prog) w 35 41 i0 _ Tryz.underlying35 hi0 hz0 .i64 .i64 3 3 (by omega) (Int.le_refl _) (by rw [hz1]; simp) (by rw [hz2]; simp) (by omega)
  have e : (Value.agg #[.int .i64 0, .bool false, .int .i64 0, .int .u64 0, .slice none 0 0]).cells = #[.int .i64 0, .bool false, .int .i64 0, .int .u64 0, .slice none 0 0] := rfl
  rw [hz1, e] at this
  simpa using this
theorem make34' (w : World) : (Instr.makeSlice 34 (.int .i64 3) (.int .i64 3)).run Tryz.prog w = .ok (.slice (some ⟨w.heap.size, 0, none⟩) 3 3) (w.alloc (.cells (madeCells #[.bool false] 3) 4)) := make34 3 (by omega) w
set_option maxHeartbeats 16000000 in
theorem linLive_any (A : Option Addr) (c nm : Nat) (ms : List Int) (B : Option Addr) (d no : Nat) (os : List Gr.Op) (w : World) (hm : nm = ms.length) (hM : Sl w A (ms.map (Value.int .u8))) (hmf : ∀ z ∈ ms, 0 ≤ z ∧ z < 256) (ho : no = os.length) (hO : Sl w B (opflat os)) (hof : ∀ x ∈ os, x.Fine) (hT : Tab w) :
    Calls Tryz.prog 4 #[.slice A nm c, .slice B no d] w fun e w' => e = .returned (.bool true) ∧ Below w.heap.size w w' := by
  have D8 := Lib.hid (shown_any w hT)
  have HM := Lib.hid hm
  have HMS := Lib.hid hM
  have HMF := Lib.hid hmf
  have HO := Lib.hid ho
  have HOS := Lib.hid hO
  have HOF := Lib.hid hof
  have HT := Lib.hid hT
  clear hm hM hmf ho hO hof hT
  by_cases h1 : (40 : Int) < (nm : Int)
  · have f1 : decide ((40 : Int) < (nm : Int)) = true := decide_eq_true h1
    go_enter Tryz.func4, Tryz.ntmps4
    go_wp2_with (go_at_call 8; ((with_reducible refine D8.out.mono ?_); rintro e w1 ⟨rfl, hb1⟩; have HB1 := Lib.hid hb1; clear hb1))
    go_ret
    exact ⟨rfl, HB1.out⟩
  have f1 : decide ((40 : Int) < (nm : Int)) = false := decide_eq_false h1
  by_cases h2 : (no : Int) < 1
  · have f2 : decide ((no : Int) < 1) = true := decide_eq_true h2
    go_enter Tryz.func4, Tryz.ntmps4
    go_wp2_with (go_at_call 8; ((with_reducible refine D8.out.mono ?_); rintro e w1 ⟨rfl, hb1⟩; have HB1 := Lib.hid hb1; clear hb1))
    go_ret
    exact ⟨rfl, HB1.out⟩
  have f2 : decide ((no : Int) < 1) = false := decide_eq_false h2
  by_cases h3 : (40 : Int) < (no : Int)
  · have f3 : decide ((40 : Int) < (no : Int)) = true := decide_eq_true h3
    go_enter Tryz.func4, Tryz.ntmps4
    go_wp2_with (go_at_call 8; ((with_reducible refine D8.out.mono ?_); rintro e w1 ⟨rfl, hb1⟩; have HB1 := Lib.hid hb1; clear hb1))
    go_ret
    exact ⟨rfl, HB1.out⟩
  have f3 : decide ((40 : Int) < (no : Int)) = false := decide_eq_false h3
  have nm40 : nm ≤ 40 := by omega
  have no40 : no ≤ 40 := by omega
  clear h1 h2 h3
  go_enter Tryz.func4, Tryz.ntmps4
  go_upto_region 6 with (go_at_call 8; ((with_reducible refine D8.out.mono ?_); rintro e w1 ⟨rfl, hb1⟩; have HB1 := Lib.hid hb1; clear hb1))
  have mk1 := make34' (w1.alloc (.cells #[.int .i64 (-1), .int .i64 (-1), .int .i64 (-1)] 3))
  have mk2 := make35 ((w1.alloc (.cells #[.int .i64 (-1), .int .i64 (-1), .int .i64 (-1)] 3)).alloc (.cells (madeCells #[.bool false] 3) 4))
  go_wp2
  obtain ⟨gu, hgu⟩ : ∃ gu, gu = w1.heap.size + 1 + 1 := ⟨_, rfl⟩
  rw [← hgu]
  have I0 : Hid (LIv w1 gu nm no (.slice none 0 0) (.slice none 0 0) (.slice (some ⟨w1.heap.size, 0, none⟩) 3 3) (.slice (some ⟨w1.heap.size + 1, 0, none⟩) 3 3) (.int .i64 0) (.int .i64 0) (.int .i64 0) (((w1.alloc (.cells #[.int .i64 (-1), .int .i64 (-1), .int .i64 (-1)] 3)).alloc (.cells (madeCells #[.bool false] 3) 4)).alloc (.cells (madeCells #[.int .i64 0, .bool false, .int .i64 0, .int .u64 0, .slice none 0 0] 15) 41))) := Lib.hid (by rw [hgu]; exact ⟨0, 0, 0, 0, 0, 0, 0, _, _, none, none, [], [], _, _, [outZ, outZ, outZ], [], rfl, rfl, rfl, rfl, rfl, rfl, rfl, Nat.zero_le _, Nat.zero_le _, by omega, Live.start, fun i j a b _ h => by simp at h, by simp, LM.start w1⟩)
  clear mk1 mk2 hgu
  go_loopw [6, 7, 8, 9, 11, 12, 13] (fun x6 x7 x8 x9 x11 x12 x13 wr => LIv w1 gu nm no x6 x7 x8 x9 x11 x12 x13 wr) (fun _ _ _ _ _ _ x13 _ => nm - (intOf x13).toNat)
  case atStart => exact I0.out
  case round =>
    obtain ⟨i, era, nx, nh, hc, ng, gc, ga, go, H, G, h, g, ats, ov, outs, dn, rfl, rfl, rfl, rfl, rfl, rfl, rfl, hi, hnx, hera, hlive, hris, hgl, hlm⟩ := hrel
    clear I0
    have L := Lib.hid hlive
    have HRI := Lib.hid hris
    have HGL := Lib.hid hgl
    have M := Lib.hid hlm
    clear hlive hris hgl hlm
    obtain ⟨wi, hwi⟩ : ∃ wi, wi = wr := ⟨_, rfl⟩
    subst hwi
    by_cases hlt : i < nm
    · obtain ⟨z, hz⟩ : ∃ z, ms[i]? = some z := ⟨ms[i]'(by rw [← HM.out]; exact hlt), List.getElem?_eq_getElem _⟩
      have HZ := Lib.hid (HMF.out z (List.mem_of_getElem? hz))
      have BI := Lib.hid (HB1.out.trans (M.out.bel.mono HB1.out.size))
      obtain ⟨mb, mo, hA, hmc⟩ := (HMS.out.below BI.out (Nat.le_refl _)) (by rw [List.length_map, ← HM.out]; omega)
      subst hA
      have cz := hmc i (.int .u8 z) (by rw [List.getElem?_map, hz]; rfl)
      have CZ : Hid (∀ W, Below wi.heap.size wi W → W.cell? ⟨mb, mo + i, none⟩ = some (.int .u8 z)) := Lib.hid fun W hW => cellL cz hW
      clear hz hmc
      have i0 : (0 : Int) ≤ (i : Int) := by omega
      have i1 : (i : Int) < (nm : Int) := by omega
      have iz : IntKind.i64.wrap ((i : Int) + 1) = (i : Int) + 1 := by rw [IntKind.wrap_i64] <;> omega
      have ez : IntKind.i64.wrap ((era : Int) + 1) = (era : Int) + 1 := by rw [IntKind.wrap_i64] <;> omega
      by_cases hcr : z = 255 ∧ era < 2
      · have g1 : (z == 255) = true := by simpa using hcr.1
        have g2 : decide ((era : Int) < 2) = true := decide_eq_true (by omega)
        have HC := Lib.hid hcr
        have mk3 := make34' (wi.alloc (.cells #[.int .i64 (-1), .int .i64 (-1), .int .i64 (-1)] 3))
        clear hcr
        go_wp2
        refine ⟨⟨i + 1, era + 1, nx, nh, hc, ng, gc, _, _, H, G, h, g, _, _, outs, dn, by first | rfl | trivial, by first | rfl | trivial, by first | rfl | trivial, by first | rfl | trivial, by go_num, by first | rfl | trivial, by go_num, by omega, hnx, by have := HC.out; omega, L.out.crash, HRI.out, by have := HGL.out; omega, M.out.crash⟩, by simp [intOf]; omega⟩
      · have wz : IntKind.i64.wrap z = z := by have := HZ.out; rw [IntKind.wrap_i64] <;> omega
        obtain ⟨me, hme, hm3⟩ : ∃ me : Nat, z.tmod 3 = (me : Int) ∧ me < 3 := ⟨(z % 3).toNat, by rw [Int.tmod_eq_emod_of_nonneg HZ.out.1]; omega, by omega⟩
        have wm : IntKind.i64.wrap (me : Int) = (me : Int) := by rw [IntKind.wrap_i64] <;> omega
        have m0 : (0 : Int) ≤ (me : Int) := by omega
        have m1 : (me : Int) < 3 := by omega
        have HM3 := Lib.hid hm3
        obtain ⟨a, ha⟩ : ∃ a, ats[me]? = some a := ⟨ats[me]'(by rw [L.out.al]; exact hm3), List.getElem?_eq_getElem _⟩
        have HA := Lib.hid ha
        have cat := own_at M.out.aa (k := me) (by rw [List.getElem?_map, ha]; rfl)
        have HCR := Lib.hid hcr
        clear hcr hm3
        have TH := Lib.hid (L.out.ths me a ha)
        clear ha
        go_upto_region 14 with (fail)
        go_cut [54] from 46 to 176 (fun c wx => c = .bool false ∧ wx = wi)
        case first =>
          by_cases z255 : z = 255
          · have g1 : (z == 255) = true := by simpa using z255
            have g2 : decide ((era : Int) < 2) = false := decide_eq_false (fun h => HCR.out ⟨z255, by omega⟩)
            clear z255
            go_wp2
            go_meet
            exact ⟨rfl, rfl⟩
          · have g1 : (z == 255) = false := by simpa using z255
            clear z255
            go_wp2
            go_meet
            exact ⟨rfl, rfl⟩
        case rest =>
          obtain ⟨rfl, hw⟩ := hcut
          have hw' := hw.symm
          clear hw
          subst hw'
          clear HCR
          clear CZ ez
          by_cases ha0 : a < 0
          · obtain rfl : a = -1 := by
              rcases TH.out with h | ⟨k, c, h, _⟩
              · exact h
              · omega
            have fa : decide ((-1 : Int) < 0) = true := by decide
            clear ha0 TH
            by_cases hfull : no ≤ nx ∨ 9 ≤ nh
            · by_cases hf1 : (no : Int) ≤ (nx : Int)
              · have fb : decide ((no : Int) ≤ (nx : Int)) = true := decide_eq_true hf1
                have fb2 : decide ((nx : Int) < (no : Int)) = false := decide_eq_false (by omega)
                have fb3 : ¬ ((nx : Int) < (no : Int)) := by omega
                clear hfull hf1
                go_wp2
                go_roundw
                case rel => exact ⟨i + 1, era, nx, nh, hc, ng, gc, ga, go, H, G, h, g, ats, ov, outs, dn, rfl, rfl, rfl, rfl, rfl, rfl, rfl, by omega, hnx, hera, L.out.skip, HRI.out, by have := HGL.out; omega, M.out⟩
                case measure => simp [intOf]; omega
              · have fb : decide ((no : Int) ≤ (nx : Int)) = false := decide_eq_false hf1
                have fb2 : decide ((nx : Int) < (no : Int)) = true := decide_eq_true (by omega)
                have fb3 : (nx : Int) < (no : Int) := by omega
                have fc : decide ((9 : Int) ≤ (nh : Int)) = true := decide_eq_true (by omega)
                have fc2 : decide ((nh : Int) < 9) = false := decide_eq_false (by omega)
                have fc3 : ¬ ((nh : Int) < 9) := by omega
                clear hfull hf1
                go_wp2
                go_roundw
                case rel => exact ⟨i + 1, era, nx, nh, hc, ng, gc, ga, go, H, G, h, g, ats, ov, outs, dn, rfl, rfl, rfl, rfl, rfl, rfl, rfl, by omega, hnx, hera, L.out.skip, HRI.out, by have := HGL.out; omega, M.out⟩
                case measure => simp [intOf]; omega
            · have fb : decide ((no : Int) ≤ (nx : Int)) = false := decide_eq_false (by omega)
              have fc : decide ((9 : Int) ≤ (nh : Int)) = false := decide_eq_false (by omega)
              have fb2 : decide ((nx : Int) < (no : Int)) = true := decide_eq_true (by omega)
              have fb3 : (nx : Int) < (no : Int) := by omega
              have fc2 : decide ((nh : Int) < 9) = true := decide_eq_true (by omega)
              have fc3 : (nh : Int) < 9 := by omega
              have NXN : Hid (nx < no ∧ nh < 9) := Lib.hid (by omega)
              clear hfull
              go_upto_region 21 with (fail)
              obtain ⟨x, hx⟩ : ∃ x, os[nx]? = some x := ⟨os[nx]'(by rw [← HO.out]; exact NXN.out.1), List.getElem?_eq_getElem _⟩
              have XF := Lib.hid (HOF.out x (List.mem_of_getElem? hx))
              obtain ⟨ob, oo, hB, hoc⟩ := (HOS.out.below BI.out (Nat.le_refl _)) (by rw [opflat_length, ← HO.out]; have := NXN.out; omega)
              subst hB
              have o0 : wi.cell? ⟨ob, oo + nx * 4, none⟩ = some (.int .i64 x.k) := hoc (nx * 4) _ (opflat_get os (j := 0) hx rfl)
              have o1 : wi.cell? ⟨ob, oo + nx * 4 + 1, none⟩ = some (.int .i64 x.u) := hoc (nx * 4 + 1) _ (opflat_get os hx rfl)
              have o2 : wi.cell? ⟨ob, oo + nx * 4 + 2, none⟩ = some (.int .i64 x.v) := hoc (nx * 4 + 2) _ (opflat_get os hx rfl)
              have o3 : wi.cell? ⟨ob, oo + nx * 4 + 3, none⟩ = some (.int .u64 x.w) := hoc (nx * 4 + 3) _ (opflat_get os hx rfl)
              have BZ : Below wi.heap.size wi (wi.alloc (.cells #[.int .i64 0, .int .i64 0, .int .i64 0, .int .u64 0] 38)) := (Below.refl _ _).alloc (Nat.le_refl _) _
              have p0 := cellL o0 BZ
              have p1 := cellL o1 BZ
              have p2 := cellL o2 BZ
              have p3 := cellL o3 BZ
              clear hoc hx BZ
              have n0 : (0 : Int) ≤ (nx : Int) := by omega
              obtain ⟨a6, ha6, ra6⟩ : ∃ a : Int, x.k.tmod 6 = a ∧ (-6 < a ∧ a < 6) := ⟨_, rfl, tmod_rng _ _ (by decide)⟩
              obtain ⟨b6, hb6, rb6⟩ : ∃ b : Int, (a6 + 6).tmod 6 = b ∧ (0 ≤ b ∧ b < 6) := ⟨_, rfl, by rw [← ha6]; exact tmod_up _ _ (by decide)⟩
              obtain ⟨a3, ha3, ra3⟩ : ∃ a : Int, x.u.tmod 3 = a ∧ (-3 < a ∧ a < 3) := ⟨_, rfl, tmod_rng _ _ (by decide)⟩
              obtain ⟨b3, hb3, rb3⟩ : ∃ b : Int, (a3 + 3).tmod 3 = b ∧ (0 ≤ b ∧ b < 3) := ⟨_, rfl, by rw [← ha3]; exact tmod_up _ _ (by decide)⟩
              obtain ⟨a4, ha4, ra4⟩ : ∃ a : Int, x.v.tmod 3 = a ∧ (-3 < a ∧ a < 3) := ⟨_, rfl, tmod_rng _ _ (by decide)⟩
              obtain ⟨b4, hb4, rb4⟩ : ∃ b : Int, (a4 + 3).tmod 3 = b ∧ (0 ≤ b ∧ b < 3) := ⟨_, rfl, by rw [← ha4]; exact tmod_up _ _ (by decide)⟩
              have w1a : IntKind.i64.wrap a6 = a6 := by rw [IntKind.wrap_i64] <;> omega
              have w1b : IntKind.i64.wrap (a6 + 6) = a6 + 6 := by rw [IntKind.wrap_i64] <;> omega
              have w1c : IntKind.i64.wrap b6 = b6 := by rw [IntKind.wrap_i64] <;> omega
              have w1d : IntKind.i64.wrap (11 + b6) = 11 + b6 := by rw [IntKind.wrap_i64] <;> omega
              have w2a : IntKind.i64.wrap a3 = a3 := by rw [IntKind.wrap_i64] <;> omega
              have w2b : IntKind.i64.wrap (a3 + 3) = a3 + 3 := by rw [IntKind.wrap_i64] <;> omega
              have w2c : IntKind.i64.wrap b3 = b3 := by rw [IntKind.wrap_i64] <;> omega
              have w3a : IntKind.i64.wrap a4 = a4 := by rw [IntKind.wrap_i64] <;> omega
              have w3b : IntKind.i64.wrap (a4 + 3) = a4 + 3 := by rw [IntKind.wrap_i64] <;> omega
              have w3c : IntKind.i64.wrap b4 = b4 := by rw [IntKind.wrap_i64] <;> omega
              have wn : IntKind.i64.wrap ((nx : Int) + 1) = (nx : Int) + 1 := by rw [IntKind.wrap_i64] <;> omega
              have R6 := Lib.hid rb6
              have R3 := Lib.hid rb3
              have R4 := Lib.hid rb4
              clear ra6 ra3 ra4
              go_big_region
              clear o0 o1 o2 o3 p0 p1 p2 p3 ha6 hb6 ha3 hb3 ha4 hb4 w1a w1b w1c w1d w2a w2b w2c w3a w3b w3c
              have M5 := Lib.hid (M.out.later ((Below.refl wi.heap.size wi).alloc (Nat.le_refl _) (.cells #[.int .i64 (11 + b6), .int .i64 b3, .int .i64 b4, .int .u64 x.w] 38)).drew)
              have gal := (M.out.aa.lt ga rfl).2
              have gol := (M.out.oo.lt go rfl).2
              have q0 : (wi.alloc (.cells #[.int .i64 (11 + b6), .int .i64 b3, .int .i64 b4, .int .u64 x.w] 38)).drew.cell? ⟨wi.heap.size, 0, none⟩ = some (.int .i64 (11 + b6)) := (World.cell?_alloc_new _ _ _ _).trans rfl
              have q1 : (wi.alloc (.cells #[.int .i64 (11 + b6), .int .i64 b3, .int .i64 b4, .int .u64 x.w] 38)).drew.cell? ⟨wi.heap.size, 1, none⟩ = some (.int .i64 b3) := (World.cell?_alloc_new _ _ _ _).trans rfl
              have q2 : (wi.alloc (.cells #[.int .i64 (11 + b6), .int .i64 b3, .int .i64 b4, .int .u64 x.w] 38)).drew.cell? ⟨wi.heap.size, 2, none⟩ = some (.int .i64 b4) := (World.cell?_alloc_new _ _ _ _).trans rfl
              have q3 : (wi.alloc (.cells #[.int .i64 (11 + b6), .int .i64 b3, .int .i64 b4, .int .u64 x.w] 38)).drew.cell? ⟨wi.heap.size, 3, none⟩ = some (.int .u64 x.w) := (World.cell?_alloc_new _ _ _ _).trans rfl
              generalize (wi.alloc (.cells #[.int .i64 (11 + b6), .int .i64 b3, .int .i64 b4, .int .u64 x.w] 38)).drew = w5 at M5 q0 q1 q2 q3 ⊢
              obtain ⟨bx, hbx⟩ : ∃ bx, bx = wi.heap.size := ⟨_, rfl⟩
              rw [← hbx] at gal gol q0 q1 q2 q3 ⊢
              clear hbx
              have b1 : bx ≠ ga := by omega
              have b2 : bx ≠ go := by omega
              obtain ⟨b, hb⟩ : ∃ b, ov[me]? = some b := ⟨ov[me]'(by rw [L.out.ol]; exact HM3.out), List.getElem?_eq_getElem _⟩
              have ca := own_at M5.out.aa (k := me) (by rw [List.getElem?_map, HA.out]; rfl)
              have fa5 := own_frozen M5.out.aa me
              have M6 := Lib.hid (M5.out.setAt me (nh : Int))
              have co := own_at M6.out.oo (k := me) (by rw [List.getElem?_map, hb]; rfl)
              have fo5 := own_frozen M6.out.oo me
              have M7 := Lib.hid (M6.out.setOv me false)
              clear hb
              go_upto_region 25 with (fail)
              have q0' := (cell_set_ne _ ⟨go, me, none⟩ ⟨bx, 0, none⟩ (.bool false) b2).trans ((cell_set_ne _ ⟨ga, me, none⟩ ⟨bx, 0, none⟩ (.int .i64 (nh : Int)) b1).trans q0)
              have q1' := (cell_set_ne _ ⟨go, me, none⟩ ⟨bx, 1, none⟩ (.bool false) b2).trans ((cell_set_ne _ ⟨ga, me, none⟩ ⟨bx, 1, none⟩ (.int .i64 (nh : Int)) b1).trans q1)
              have q2' := (cell_set_ne _ ⟨go, me, none⟩ ⟨bx, 2, none⟩ (.bool false) b2).trans ((cell_set_ne _ ⟨ga, me, none⟩ ⟨bx, 2, none⟩ (.int .i64 (nh : Int)) b1).trans q2)
              have q3' := (cell_set_ne _ ⟨go, me, none⟩ ⟨bx, 3, none⟩ (.bool false) b2).trans ((cell_set_ne _ ⟨ga, me, none⟩ ⟨bx, 3, none⟩ (.int .i64 (nh : Int)) b1).trans q3)
              clear q0 q1 q2 q3 M5 M6 ca fa5 co fo5 b1 b2 gal gol
              generalize ((w5.setCell ⟨ga, me, none⟩ (.int .i64 (nh : Int))).setCell ⟨go, me, none⟩ (.bool false)) = w7 at M7 q0' q1' q2' q3' ⊢
              obtain ⟨b43, hb43, hz0, hz1, hz2⟩ := info_parts call_info
              obtain ⟨mc, hmc⟩ : ∃ mc : Cl, mc = ⟨me, 11 + b6, b3, b4, x.w, era, i, -1, 0, false, 0, 0, [], none, 0⟩ := ⟨_, rfl⟩
              have HMC := Lib.hid hmc
              have M8 : Hid (LM w1 (w7.alloc (.cells #[.int .i64 me, .int .i64 (11 + b6), .int .i64 b3, .int .i64 b4, .int .u64 x.w, .int .i64 era, .int .i64 i, .int .i64 (-1), .int .i64 0, .bool false, .int .i64 0, .int .u64 0, .slice none 0 0] 43)) H nh hc h G ng g ga (ats.set me (nh : Int)) go (ov.set me false) gu outs) := Lib.hid (M7.out.later ((Below.refl _ _).alloc (Nat.le_refl _) _))
              have PS : Hid (Sl (w7.alloc (.cells #[.int .i64 me, .int .i64 (11 + b6), .int .i64 b3, .int .i64 b4, .int .u64 x.w, .int .i64 era, .int .i64 i, .int .i64 (-1), .int .i64 0, .bool false, .int .i64 0, .int .u64 0, .slice none 0 0] 43)) (some ⟨w7.heap.size, 0, none⟩) (flatC [mc])) := Lib.hid (by rw [hmc]; exact sl_call w7 ⟨me, 11 + b6, b3, b4, x.w, era, i, -1, 0, false, 0, 0, [], none, 0⟩)
              have P1 := Lib.hid (flatC_one [mc])
              have ML : Hid ((flatC [mc]).length = 1 * 13) := Lib.hid (flatC_length [mc])
              have m1 : Hid (nh + 1 ≤ maxLen) := Lib.hid (by have := NXN.out; unfold maxLen; omega)
              have m2 : Hid ((nh + 1) * 120 ≤ 140737488355328) := Lib.hid (by have := NXN.out; omega)
              have BS := Lib.hid (M8.out.bel.size)
              clear hmc M7
              go_wp2_with (
                at_builtin
                refine wpList_append_sl _ rfl (.tmp 120) (.tmp 126) 23 rfl w1.heap.size 43 b43 _ 13 120 Tryz.underlying23 hb43 hz0 hz1 hz2 rfl (by decide) (.slice H nh hc) nh (flatC h) rfl M8.out.hs (some ⟨w7.heap.size, 0, none⟩) 1 1 (flatC [mc]) rfl ML.out PS.out P1.out m1.out m2.out BS.out (nh + 1) rfl ?_
                intro A6 c6 w8 hown8 hb8 hg8 hk8
                have O8 := Lib.hid hown8
                have G8 := Lib.hid hg8
                have K8 := Lib.hid hk8
                clear hown8 hb8 hg8 hk8)
              have LK : Live ((i + 1 : Nat) : Int) era (h ++ [mc]) g (ats.set me (nh : Int)) (ov.set me false) (outs.map OV.a) dn := by
                have h1 := L.out.ask HM3.out HA.out (by have := NXN.out.2; have := M.out.hn; omega) (by omega) (by omega) (k := 11 + b6) (u := b3) (v := b4) (x := x.w) (by have := R6.out; omega) (by have := R3.out; omega) (by have := R4.out; omega) (by have := XF.out; unfold Gr.Op.Fine at this; omega) (A := none) (cap := 0)
                rw [← M.out.hn, ← HMC.out] at h1
                exact h1
              have M9 := M8.out.ask (c := mc) (w' := w8) (H' := A6) (hc' := c6) (by rw [flatC_append]; exact O8.out) G8.out K8.out
              exact ⟨⟨i + 1, era, nx + 1, nh + 1, c6, ng, gc, ga, go, A6, G, h ++ [mc], g, ats.set me (nh : Int), ov.set me false, outs, dn, rfl, rfl, rfl, rfl, rfl, rfl, rfl, by omega, by have := NXN.out; omega, hera, LK, HRI.out, by have := HGL.out; omega, M9⟩, by simp [intOf]; omega⟩
          · obtain ⟨k, c, rfl, hk, hcm, hce, hct, ho1, ho0⟩ : ∃ (k : Nat) (c : Cl), a = (k : Int) ∧ h[k]? = some c ∧ c.me = (me : Int) ∧ c.era = era ∧ c.to = -1 ∧ (ov[me]? = some true → ∃ d ∈ dn, d.k = k ∧ (outs.map OV.a)[me]? = some d.an) ∧ (ov[me]? = some false → ∀ d ∈ dn, d.k ≠ k) := by
              rcases TH.out with h | h
              · omega
              · exact h
            have fa : decide ((k : Int) < 0) = false := decide_eq_false (by omega)
            have HK := Lib.hid hk
            have kn : k < nh := by rw [M.out.hn]; exact (List.getElem?_eq_some_iff.1 hk).1
            have k0 : (0 : Int) ≤ (k : Int) := by omega
            have k1 : (k : Int) < (nh : Int) := by omega
            obtain ⟨gh, rfl, hgh0, hgh1⟩ := own_blkC M.out.hs (by omega)
            have CC := Lib.hid (flat_cell M.out.hs hk)
            obtain ⟨b, hb⟩ : ∃ b, ov[me]? = some b := ⟨ov[me]'(by rw [L.out.ol]; exact HM3.out), List.getElem?_eq_getElem _⟩
            have HB := Lib.hid hb
            have cov := own_at M.out.oo (k := me) (by rw [List.getElem?_map, hb]; rfl)
            have c0 : wi.cell? ⟨gh, k * 13, none⟩ = some (.int .i64 c.me) := CC.out 0 _ rfl
            have c1 : wi.cell? ⟨gh, k * 13 + 1, none⟩ = some (.int .i64 c.k) := CC.out 1 _ rfl
            have c2 : wi.cell? ⟨gh, k * 13 + 2, none⟩ = some (.int .i64 c.u) := CC.out 2 _ rfl
            have c3 : wi.cell? ⟨gh, k * 13 + 3, none⟩ = some (.int .i64 c.v) := CC.out 3 _ rfl
            have c4 : wi.cell? ⟨gh, k * 13 + 4, none⟩ = some (.int .u64 c.x) := CC.out 4 _ rfl
            have c5 : wi.cell? ⟨gh, k * 13 + 5, none⟩ = some (.int .i64 c.era) := CC.out 5 _ rfl
            have c6 : wi.cell? ⟨gh, k * 13 + 6, none⟩ = some (.int .i64 c.fr) := CC.out 6 _ rfl
            have c7 : wi.cell? ⟨gh, k * 13 + 7, none⟩ = some (.int .i64 c.to) := CC.out 7 _ rfl
            have c8 : wi.cell? ⟨gh, k * 13 + 8, none⟩ = some (.int .i64 c.err) := CC.out 8 _ rfl
            have c9 : wi.cell? ⟨gh, k * 13 + 9, none⟩ = some (.bool c.is) := CC.out 9 _ rfl
            have c10 : wi.cell? ⟨gh, k * 13 + 10, none⟩ = some (.int .i64 c.n) := CC.out 10 _ rfl
            have c11 : wi.cell? ⟨gh, k * 13 + 11, none⟩ = some (.int .u64 c.w) := CC.out 11 _ rfl
            have c12 : wi.cell? ⟨gh, k * 13 + 12, none⟩ = some (.slice c.A c.list.length c.cap) := CC.out 12 _ rfl
            clear hk ha0 TH hb
            have HO1 := Lib.hid ho1
            have HO0 := Lib.hid ho0
            clear ho1 ho0 hcm hce hct
            go_upto_region 27 with (fail)
            have OC := Lib.hid (L.out.ok c (List.mem_of_getElem? HK.out))
            have BX : Hid (Below wi.heap.size wi (wi.alloc (.cells #[.int .i64 c.me, .int .i64 c.k, .int .i64 c.u, .int .i64 c.v, .int .u64 c.x, .int .i64 c.era, .int .i64 c.fr, .int .i64 c.to, .int .i64 c.err, .bool c.is, .int .i64 c.n, .int .u64 c.w, .slice c.A c.list.length c.cap] 43))) := Lib.hid ((Below.refl _ _).alloc (Nat.le_refl _) _)
            have cov2 := cellL cov BX.out
            have cat2 := cellL cat BX.out
            cases b
            · have D15 := Lib.hid (Gr.F.refDoF_any G gc ng g ⟨c.k, c.u, c.v, c.x⟩ (wi.alloc (.cells #[.int .i64 c.me, .int .i64 c.k, .int .i64 c.u, .int .i64 c.v, .int .u64 c.x, .int .i64 c.era, .int .i64 c.fr, .int .i64 c.to, .int .i64 c.err, .bool c.is, .int .i64 c.n, .int .u64 c.w, .slice c.A c.list.length c.cap] 43)) M.out.gn (M.out.later BX.out).gs HRI.out (by have := HGL.out; omega) OC.out.k (isV_02 OC.out.u) (isV_02 OC.out.v) OC.out.x.1 OC.out.x.2)
              unfold Gr.F.DoPostF at D15
              obtain ⟨⟨ae, ai, an, aw, al⟩, han⟩ : ∃ x : Ans, x = doA g ⟨c.k, c.u, c.v, c.x⟩ := ⟨_, rfl⟩
              obtain ⟨g2, hg2⟩ : ∃ x, x = doG g ⟨c.k, c.u, c.v, c.x⟩ := ⟨_, rfl⟩
              rw [← han, ← hg2] at D15
              have HAN := Lib.hid han
              have HG2 := Lib.hid hg2
              clear han hg2
              unfold Ans.val at D15
              go_upto_region 30 with (go_at_call 15; ((with_reducible refine D15.out.mono ?_); rintro e w2 ⟨X, d2, C, f2, rfl, hx, hs, hb, hf⟩; have HX := Lib.hid hx; have HS := Lib.hid hs; have HBD := Lib.hid hb; have HF := Lib.hid hf; clear hx hs hb hf))
              as_aux_lemma =>
                have hbd : Below wi.heap.size wi (w2.alloc (.cells #[.int .i64 ae, .bool ai, .int .i64 an, .int .u64 aw, .slice C al.length f2] 41)) := (BX.out.trans (HBD.out.mono BX.out.size)).alloc (BX.out.trans (HBD.out.mono BX.out.size)).size _
                have MD := Lib.hid (M.out.doit hbd (HX.out.below ((Below.refl w2.heap.size w2).alloc (Nat.le_refl _) _) (Nat.le_refl _)) (HF.out.elim (fun h => .inl h) (fun h => .inr (.inr fun p hp => Nat.le_trans BX.out.size (h p hp)))))
                clear hbd
                have uof : Hid (me < outs.length) := Lib.hid (by have := L.out.ul; rw [List.length_map] at this; rw [this]; exact HM3.out)
                have MF := Lib.hid ((MD.out.setOut uof.out ⟨⟨ae, ai, an, aw, al⟩, C, f2⟩).setOv me true)
                have LD : Hid (Live ((i + 1 : Nat) : Int) era h g2 ats (ov.set me true) ((outs.set me ⟨⟨ae, ai, an, aw, al⟩, C, f2⟩).map OV.a) (dn ++ [⟨k, i, c.era, clOp c, doA g (clOp c)⟩])) := Lib.hid (by
                  have h1 := L.out.doit HM3.out HA.out HK.out HB.out
                  rw [List.map_set]
                  show Live ((i : Int) + 1) era h g2 ats (ov.set me true) ((outs.map OV.a).set me ⟨ae, ai, an, aw, al⟩) _
                  rw [HG2.out, HAN.out]
                  exact h1)
                have HR2 : Hid (Rises g2) := Lib.hid (by rw [HG2.out]; exact Gr.rises_do HRI.out _)
                have HL2 : Hid (g2.length ≤ i + 1) := Lib.hid (by rw [HG2.out]; have := Gr.len_do g ⟨c.k, c.u, c.v, c.x⟩; have := HGL.out; omega)
                obtain ⟨x0, hx0⟩ : ∃ x0, outs[me]? = some x0 := ⟨outs[me]'uof.out, List.getElem?_eq_getElem _⟩
                have u0 := own_at MD.out.uu (oflat_get outs (j := 0) hx0 rfl)
                have u1 := own_at MD.out.uu (oflat_get outs (j := 1) hx0 rfl)
                have u2 := own_at MD.out.uu (oflat_get outs (j := 2) hx0 rfl)
                have u3 := own_at MD.out.uu (oflat_get outs (j := 3) hx0 rfl)
                have u4 := own_at MD.out.uu (oflat_get outs (j := 4) hx0 rfl)
                rw [Nat.add_zero] at u0
                have co := own_at MD.out.oo (k := me) (by rw [List.getElem?_map, HB.out]; rfl)
                have fu0 := own_frozen MD.out.uu (me * 5)
                have fu1 := own_frozen MD.out.uu (me * 5 + 1)
                have fu2 := own_frozen MD.out.uu (me * 5 + 2)
                have fu3 := own_frozen MD.out.uu (me * 5 + 3)
                have fu4 := own_frozen MD.out.uu (me * 5 + 4)
                have fo := own_frozen MD.out.oo me
                have v0 : (w2.alloc (.cells #[.int .i64 ae, .bool ai, .int .i64 an, .int .u64 aw, .slice C al.length f2] 41)).cell? ⟨w2.heap.size, 0, none⟩ = some (.int .i64 ae) := by rw [World.cell?_alloc_new]; rfl
                have v1 : (w2.alloc (.cells #[.int .i64 ae, .bool ai, .int .i64 an, .int .u64 aw, .slice C al.length f2] 41)).cell? ⟨w2.heap.size, 1, none⟩ = some (.bool ai) := by rw [World.cell?_alloc_new]; rfl
                have v2 : (w2.alloc (.cells #[.int .i64 ae, .bool ai, .int .i64 an, .int .u64 aw, .slice C al.length f2] 41)).cell? ⟨w2.heap.size, 2, none⟩ = some (.int .i64 an) := by rw [World.cell?_alloc_new]; rfl
                have v3 : (w2.alloc (.cells #[.int .i64 ae, .bool ai, .int .i64 an, .int .u64 aw, .slice C al.length f2] 41)).cell? ⟨w2.heap.size, 3, none⟩ = some (.int .u64 aw) := by rw [World.cell?_alloc_new]; rfl
                have v4 : (w2.alloc (.cells #[.int .i64 ae, .bool ai, .int .i64 an, .int .u64 aw, .slice C al.length f2] 41)).cell? ⟨w2.heap.size, 4, none⟩ = some (.slice C al.length f2) := by rw [World.cell?_alloc_new]; rfl
                clear c0 c1 c2 c3 c4 c5 c6 c7 c8 c9 c10 c11 c12 cov cov2 cat cat2
                clear D15 HX HF HBD BX
                generalize w2.alloc (.cells #[.int .i64 ae, .bool ai, .int .i64 an, .int .u64 aw, .slice C al.length f2] 41) = w5 at MD MF u0 u1 u2 u3 u4 co fu0 fu1 fu2 fu3 fu4 fo v0 v1 v2 v3 v4 ⊢
                generalize w2.heap.size = bx at v0 v1 v2 v3 v4 ⊢
                go_upto_region 31 with (fail)
                have MU := Lib.hid (MD.out.setOut uof.out ⟨⟨ae, ai, an, aw, al⟩, C, f2⟩)
                clear MD u0 u1 u2 u3 u4 co fu0 fu1 fu2 fu3 fu4 fo v0 v1 v2 v3 v4
                generalize (((((w5.setCell ⟨gu, me * 5, none⟩ (.int .i64 ae)).setCell ⟨gu, me * 5 + 1, none⟩ (.bool ai)).setCell ⟨gu, me * 5 + 2, none⟩ (.int .i64 an)).setCell ⟨gu, me * 5 + 3, none⟩ (.int .u64 aw)).setCell ⟨gu, me * 5 + 4, none⟩ (.slice C al.length f2)) = w6 at MU MF ⊢
                have co := own_at MU.out.oo (k := me) (by rw [List.getElem?_map, HB.out]; rfl)
                have fo := own_frozen MU.out.oo me
                go_wp2
                go_roundw
                case rel => exact ⟨i + 1, era, nx, nh, hc, g2.length, d2, ga, go, some ⟨gh, 0, none⟩, X, h, g2, ats, ov.set me true, outs.set me ⟨⟨ae, ai, an, aw, al⟩, C, f2⟩, dn ++ [⟨k, i, c.era, clOp c, doA g (clOp c)⟩], rfl, rfl, rfl, rfl, rfl, rfl, rfl, by omega, hnx, hera, LD.out, HR2.out, HL2.out, MF.out⟩
                case measure => simp [intOf]; omega
            · skip
              obtain ⟨d, hd, hdk, hdo⟩ := HO1.out HB.out
              obtain ⟨x, hx, hxa⟩ : ∃ x : OV, outs[me]? = some x ∧ x.a = d.an := by
                rw [List.getElem?_map] at hdo
                exact Option.map_eq_some_iff.1 hdo
              obtain ⟨⟨ae, ai, an, aw, al⟩, oA, oc⟩ := x
              have M0 := Lib.hid (M.out.setTo rfl HK.out (i : Int))
              have M1 := Lib.hid (M0.out.later ((Below.refl _ _).alloc (Nat.le_refl _) (.cells #[.int .i64 c.me, .int .i64 c.k, .int .i64 c.u, .int .i64 c.v, .int .u64 c.x, .int .i64 c.era, .int .i64 c.fr, .int .i64 c.to, .int .i64 c.err, .bool c.is, .int .i64 c.n, .int .u64 c.w, .slice c.A c.list.length c.cap] 43)))
              clear M0
              have LA := Lib.hid (L.out.answer HM3.out HA.out HK.out HB.out (an := ⟨ae, ai, an, aw, al⟩) (by rw [List.getElem?_map, hx]; rfl) (A := oA) (cap := oc))
              have HXO := Lib.hid hx
              clear hd hdk hdo hx hxa
              have c7b := cellL c7 BX.out
              have fh7 := own_frozen (M.out.later BX.out).hs (k * 13 + 7)
              clear c0 c1 c2 c3 c4 c5 c6 c7 c8 c9 c10 c11 c12
              go_upto_region 33 with (fail)
              clear fh7 c7b cov cov2 cat cat2
              generalize ((wi.setCell ⟨gh, k * 13 + 7, none⟩ (.int .i64 (i : Int))).alloc (.cells #[.int .i64 c.me, .int .i64 c.k, .int .i64 c.u, .int .i64 c.v, .int .u64 c.x, .int .i64 c.era, .int .i64 c.fr, .int .i64 c.to, .int .i64 c.err, .bool c.is, .int .i64 c.n, .int .u64 c.w, .slice c.A c.list.length c.cap] 43)) = w5 at M1 ⊢
              have u0 := own_at M1.out.uu (oflat_get outs (j := 0) HXO.out rfl)
              have u1 := own_at M1.out.uu (oflat_get outs (j := 1) HXO.out rfl)
              have u2 := own_at M1.out.uu (oflat_get outs (j := 2) HXO.out rfl)
              have u3 := own_at M1.out.uu (oflat_get outs (j := 3) HXO.out rfl)
              have u4 := own_at M1.out.uu (oflat_get outs (j := 4) HXO.out rfl)
              rw [Nat.add_zero] at u0
              have ca := own_at M1.out.aa (k := me) (by rw [List.getElem?_map, HA.out]; rfl)
              go_still_tail 11, (by kernel_rfl)
              change wpList _ _ _ _ _ w5.drew
              have MD := Lib.hid (M1.out.later (Below.refl _ _).drew)
              clear M1 u0 u1 u2 u3 u4 ca
              generalize w5.drew = w6 at MD ⊢
              have gt1 : (h.set k ⟨c.me, c.k, c.u, c.v, c.x, c.era, c.fr, (i : Int), c.err, c.is, c.n, c.w, c.list, c.A, c.cap⟩)[k]? = some ⟨c.me, c.k, c.u, c.v, c.x, c.era, c.fr, (i : Int), c.err, c.is, c.n, c.w, c.list, c.A, c.cap⟩ := by rw [List.getElem?_set, if_pos rfl, if_pos (List.getElem?_eq_some_iff.1 HK.out).1]
              have m2 := MD.out.setAns rfl gt1 ae ai an aw al oA oc
              rw [List.set_set] at m2
              have M2 := Lib.hid m2
              clear m2
              have CC1 := Lib.hid (flat_cell MD.out.hs gt1)
              have d8 : w6.cell? ⟨gh, k * 13 + 8, none⟩ = some (.int .i64 c.err) := CC1.out 8 _ rfl
              have d9 : w6.cell? ⟨gh, k * 13 + 9, none⟩ = some (.bool c.is) := CC1.out 9 _ rfl
              have d10 : w6.cell? ⟨gh, k * 13 + 10, none⟩ = some (.int .i64 c.n) := CC1.out 10 _ rfl
              have d11 : w6.cell? ⟨gh, k * 13 + 11, none⟩ = some (.int .u64 c.w) := CC1.out 11 _ rfl
              have d12 : w6.cell? ⟨gh, k * 13 + 12, none⟩ = some (.slice c.A c.list.length c.cap) := CC1.out 12 _ rfl
              have e8 := own_frozen MD.out.hs (k * 13 + 8)
              have e9 := own_frozen MD.out.hs (k * 13 + 9)
              have e10 := own_frozen MD.out.hs (k * 13 + 10)
              have e11 := own_frozen MD.out.hs (k * 13 + 11)
              have e12 := own_frozen MD.out.hs (k * 13 + 12)
              clear gt1 CC1 MD
              go_upto_region 34 with (fail)
              clear d8 d9 d10 d11 d12 e8 e9 e10 e11 e12
              generalize (((((w6.setCell ⟨gh, k * 13 + 8, none⟩ (.int .i64 ae)).setCell ⟨gh, k * 13 + 8 + 1, none⟩ (.bool ai)).setCell ⟨gh, k * 13 + 8 + 2, none⟩ (.int .i64 an)).setCell ⟨gh, k * 13 + 8 + 3, none⟩ (.int .u64 aw)).setCell ⟨gh, k * 13 + 8 + 4, none⟩ (.slice oA al.length oc)) = w7 at M2 ⊢
              have ca := own_at M2.out.aa (k := me) (by rw [List.getElem?_map, HA.out]; rfl)
              have fa := own_frozen M2.out.aa me
              have M3 := Lib.hid (M2.out.setAt me (-1))
              clear M2
              go_wp2
              go_roundw
              case rel => exact ⟨i + 1, era, nx, nh, hc, ng, gc, ga, go, some ⟨gh, 0, none⟩, G, h.set k ⟨c.me, c.k, c.u, c.v, c.x, c.era, c.fr, (i : Int), ae, ai, an, aw, al, oA, oc⟩, g, ats.set me (-1), ov, outs, dn, rfl, rfl, rfl, rfl, rfl, rfl, rfl, by omega, hnx, hera, LA.out.2, HRI.out, by have := HGL.out; omega, M3.out⟩
              case measure => simp [intOf]; omega
    · skip
      as_aux_lemma =>
        have HIN : Hid (i = nm) := Lib.hid (by omega)
        have fx : decide ((i : Int) < (nm : Int)) = false := decide_eq_false (by omega)
        have fx2 : ¬ ((i : Int) < (nm : Int)) := by omega
        clear hlt
        have BI := Lib.hid (HB1.out.trans (M.out.bel.mono HB1.out.size))
        have CLS : Hid (∀ W, Below wi.heap.size wi W → Cls W H h) := Lib.hid fun W hW => (own_cls M.out.hs (fun a ha => by rw [(L.out.ok a ha).nil]; exact fun hp => by simp at hp)).below hW (Nat.le_refl _)
        have HL := Lib.hid (L.out.hist (by have := HIN.out; omega))
        have D16 : Hid (Calls Tryz.prog 16 #[.slice H nh hc] wi fun e w' => e = .returned (.bool true) ∧ Below wi.heap.size wi w') := Lib.hid (by
          have h1 := Hs.refRight_any H hc nh h wi M.out.hn (CLS.out wi (Below.refl _ _)) (by have := HL.out.few; omega)
          have hr : Hs.rightB h = true := by unfold Hs.rightB; simpa using HL.out.right
          rwa [hr] at h1)
        have LI : Hid (∀ W, Below wi.heap.size wi W → LIn W none 0 [] H nh h) := Lib.hid fun W hW => ⟨rfl, M.out.hn, ⟨by simp, by simp, by simp⟩, fun i j a b _ h => (by simp at h), by simp, CLS.out W hW, fun a ha => by rw [(L.out.ok a ha).nil]; simp, HT.out.below (BI.out.trans (hW.mono BI.out.size)) (Nat.le_refl _), HL.out⟩
        have D11 : Hid (∀ W, Below wi.heap.size wi W → Calls Tryz.prog 11 #[.slice none 0 0, .slice H nh hc] W fun e w' => ∃ B d ys, e = .returned (.slice B ys.length d) ∧ GRd w' B ys ∧ (ys.map GSl.l).Pairwise LexLt ∧ (∀ g', g' ∈ ys.map GSl.l ↔ Ends h [] g') ∧ Below W.heap.size W w') := Lib.hid fun W hW => ends_any none 0 0 [] H hc nh h W (LI.out W hW)
        have GE := Lib.hid L.out.ends
        have D14 : Hid (∀ W, Below wi.heap.size wi W → Calls Tryz.prog 14 #[.slice none 0 0, .slice H nh hc] W fun e w' => e = .returned (.bool true) ∧ Below W.heap.size W w') := Lib.hid fun W hW => order_says none 0 0 [] H hc nh h W (LI.out W hW) true ⟨fun _ => ⟨g, GE.out⟩, fun _ => rfl⟩
        have GA : Hid (∀ W, Below wi.heap.size wi W → Arcs W G g) := Lib.hid fun W hW => M.out.gs.below hW (Nat.le_refl _)
        have GN := Lib.hid M.out.gn
        go_wp2_with (first
          | (go_at_call 16; ((with_reducible refine D16.out.mono ?_); rintro e w2 ⟨rfl, hb2⟩; have HB2 := Lib.hid hb2; clear hb2))
          | (go_at_call 11; ((with_reducible refine (D11.out w2 HB2.out).mono ?_); rintro e w4 ⟨B4, d4, ys, rfl, y1, y2, y3, y4⟩; obtain ⟨N, hN⟩ : ∃ N, N = ys.length := ⟨_, rfl⟩; rw [← hN]; have HNY := Lib.hid hN; have Y1 := Lib.hid y1; have Y2 := Lib.hid y2; have Y3 := Lib.hid y3; have Y4 := Lib.hid (HB2.out.trans (y4.mono HB2.out.size)); clear y1 y2 y3 y4 hN)))
        have NBY : N ≤ 1000000000000 := by
          have := ends_bound HL.out (lex_nodup Y2.out) (fun x hx => (Y3.out x).1 hx)
          rw [List.length_map] at this
          have := HNY.out; omega
        have GIN : Hid (∃ (q : Nat) (y : GSl), ys[q]? = some y ∧ y.l = g) := Lib.hid (by
          obtain ⟨y, hy, hyl⟩ := List.mem_map.1 ((Y3.out g).2 GE.out)
          obtain ⟨q, hq, rfl⟩ := List.getElem_of_mem hy
          exact ⟨q, _, List.getElem?_eq_getElem hq, hyl⟩)
        go_loopw [20, 21] (fun x y wr => ∃ (j : Nat) (b : Bool), x = .bool b ∧ y = .int .i64 j ∧ j ≤ N ∧ (b = false → ∀ (q : Nat) (z : GSl), q < j → ys[q]? = some z → z.l ≠ g) ∧ Below w4.heap.size w4 wr) (fun _ y _ => N - (intOf y).toNat)
        case atStart => exact ⟨0, false, rfl, rfl, Nat.zero_le _, fun _ q z hq => by omega, Below.refl _ _⟩
        case round =>
          obtain ⟨j, b, rfl, rfl, hj, hno, hbw⟩ := hrel
          have NO := Lib.hid hno
          have BW := Lib.hid hbw
          clear hno hbw
          obtain ⟨wk, hwk⟩ : ∃ wk, wk = wr := ⟨_, rfl⟩
          subst hwk
          have wj : IntKind.i64.wrap ((j : Int) + 1) = (j : Int) + 1 := by rw [IntKind.wrap_i64] <;> omega
          have W4 := Lib.hid (Y4.out.trans (BW.out.mono Y4.out.size))
          by_cases hlt : j < N
          · obtain ⟨y, hy⟩ : ∃ y, ys[j]? = some y := ⟨ys[j]'(by rw [← HNY.out]; exact hlt), List.getElem?_eq_getElem _⟩
            have HY := Lib.hid hy
            have YB := Lib.hid (Y1.out.below BW.out (Nat.le_refl _))
            obtain ⟨yb, yo, hB4, cy⟩ := YB.out.cell hy
            subst hB4
            have YM := Lib.hid (YB.out.2 y (List.mem_of_getElem? hy))
            have j0 : (0 : Int) ≤ (j : Int) := by omega
            have j1 : (j : Int) < (N : Int) := by omega
            have fj : decide ((j : Int) < (N : Int)) = true := decide_eq_true j1
            have D17 := Lib.hid (Gr.refSame_any y.A G y.c gc y.l.length ng y.l g wk rfl GN.out YM.out.1 (GA.out _ W4.out) YM.out.2)
            obtain ⟨sb, hsb⟩ : ∃ sb, Gr.sameB y.l g = sb := ⟨_, rfl⟩
            rw [hsb] at D17
            have HSB := Lib.hid hsb
            clear hy hsb hlt
            cases b
            · go_wp2_with (go_at_call 17; ((with_reducible refine D17.out.mono ?_); rintro e w5 ⟨rfl, hb5⟩; have HB5 := Lib.hid hb5; clear hb5))
              go_roundw
              case rel =>
                refine ⟨j + 1, sb, rfl, rfl, by omega, fun h0 q z hq hz => ?_, BW.out.trans (HB5.out.mono BW.out.size)⟩
                rcases Nat.lt_or_ge q j with h1 | h1
                · exact (by first | exact NO.out rfl | exact NO.out trivial : ∀ (q : Nat) (z : GSl), q < j → ys[q]? = some z → z.l ≠ g) q z h1 hz
                · obtain rfl : q = j := by omega
                  rw [HY.out] at hz
                  cases hz
                  intro he
                  have := HSB.out
                  rw [he, h0] at this
                  have h2 : Gr.sameB g g = true := by unfold Gr.sameB; simp
                  rw [h2] at this
                  cases this
              case measure => simp [intOf]; omega
            · go_wp2
              go_roundw
              case rel => exact ⟨j + 1, true, rfl, rfl, by omega, fun h0 => (by cases h0), BW.out⟩
              case measure => simp [intOf]; omega
          · obtain rfl : j = N := by omega
            have fj : decide ((j : Int) < (j : Int)) = false := decide_eq_false (by omega)
            obtain rfl : b = true := by
              cases b
              · exfalso
                obtain ⟨q, y, hq, hyl⟩ := GIN.out
                have hql := (List.getElem?_eq_some_iff.1 hq).1
                exact (by first | exact NO.out rfl | exact NO.out trivial : ∀ (q : Nat) (z : GSl), q < j → ys[q]? = some z → z.l ≠ g) q y (by rw [HNY.out]; exact hql) hq hyl
              · rfl
            clear hlt
            go_wp2_with (go_at_call 14; ((with_reducible refine (D14.out _ W4.out).mono ?_); rintro e w7 ⟨rfl, hb7⟩; have HB7 := Lib.hid (W4.out.trans (hb7.mono W4.out.size)); clear hb7))
            go_ret
            exact ⟨by first | rfl | simp, BI.out.trans (HB7.out.mono BI.out.size)⟩
end Go.Proofs.YtpdfmfkoopdfgaaGreatDoor
