/- HRefListed. -/
import Derived.Test.YtpdfmfkoopdfgaaGreatDoorB32
import Derived.Test.YtpdfmfkoopdfgaaGreatDoorB10
import Derived.Test.YtpdfmfkoopdfgaaGreatDoorB42
import Derived.BigQuiet
import Derived.Deep.Cut
import Derived.Deep.CutRange
set_option linter.unusedVariables false
namespace Go.Proofs.YtpdfmfkoopdfgaaGreatDoor.Hs
set_option maxRecDepth 100000
open Go.RowKit Aid

theorem any_yes {l : List Cl} {f : Cl → Bool} {i : Nat} {a : Cl} (h : l[i]? = some a) (hf : f a = true) : (!l.any f) = false := by
  rw [List.any_eq_true.2 ⟨a, List.mem_of_getElem? h, hf⟩]; rfl
theorem any_no {l : List Cl} {f : Cl → Bool} {i : Nat} (hi : i = l.length) (h : ∀ j a, j < i → l[j]? = some a → f a = false) : (!l.any f) = true := by
  cases q : l.any f
  · rfl
  · obtain ⟨a, ha, h2⟩ := List.any_eq_true.1 q
    obtain ⟨j, hj, he⟩ := List.mem_iff_getElem.1 ha
    rw [h j a (by omega) (by rw [List.getElem?_eq_getElem hj, he])] at h2
    cases h2
theorem step_no {l : List Cl} {f : Cl → Bool} {i : Nat} {a : Cl} (h : ∀ j a, j < i → l[j]? = some a → f a = false) (ha : l[i]? = some a) (hf : f a = false) : ∀ j a, j < i + 1 → l[j]? = some a → f a = false := fun j b hj hb => by
  rcases Nat.lt_or_ge j i with q | q
  · exact h j b q hb
  · obtain rfl : j = i := by omega
    obtain rfl : a = b := by have := ha.symm.trans hb; injection this
    exact hf
set_option maxHeartbeats 16000000 in
set_option maxRecDepth 100000 in
theorem rListed_any (A : Option Addr) (c n : Nat) (l : List Cl) (w : World) (hn : n = l.length) (hl : Cls w A l) (h40 : l.length ≤ 12) (hf : ∀ a ∈ l, a.list.length ≤ 9223372036854775807) :
    Calls Tryz.prog 28 #[.slice A n c] w fun e w' => e = .returned (.bool (!l.any (notListed (keysOf l)))) ∧ Below w.heap.size w w' := by
  have HN := Lib.hid hn
  have HL := Lib.hid hl
  have HF := Lib.hid hf
  have DK := Lib.hid (rKeys_any A c n l w hn hl h40)
  have kl := keys_len l
  have kb : (keysOf l).length ≤ 24 := by omega
  have nb : n ≤ 12 := by omega
  clear hn hl hf kl h40
  generalize keysOf l = keys at DK kb ⊢
  go_enter Tryz.func28, Tryz.ntmps28
  go_wp2_with (go_at_call 45; ((with_reducible refine DK.out.mono ?_); rintro e w1 ⟨K, kd, rfl, hs, hb⟩; have S1 := Lib.hid hs; have H1 := Lib.hid hb; clear hs hb))
  go_loopw [4] (fun v wr => ∃ i : Nat, i ≤ n ∧ v = .int .i64 i ∧ (∀ j a, j < i → l[j]? = some a → notListed keys a = false) ∧ Below w1.heap.size w1 wr) (fun v _ => n - (intOf v).toNat)
  case atStart => exact ⟨0, Nat.zero_le _, rfl, fun j a hj => by omega, Below.refl _ _⟩
  case round =>
    obtain ⟨i, hi, rfl, hg, hb⟩ := hrel
    have HG := Lib.hid hg
    have HB := Lib.hid hb
    clear hb hg
    obtain ⟨w0, hw0⟩ : ∃ w0, w0 = wr := ⟨_, rfl⟩
    subst hw0
    by_cases hlt : i < n
    · have i0 : (0 : Int) ≤ (i : Int) := by omega
      have i1 : (i : Int) < (n : Int) := by omega
      have n3 : IntKind.i64.wrap ((i : Int) + 1) = (i : Int) + 1 := by rw [IntKind.wrap_i64] <;> omega
      obtain ⟨a, hal⟩ : ∃ a, l[i]? = some a := ⟨l[i]'(by rw [← HN.out]; exact hlt), List.getElem?_eq_getElem _⟩
      have HAL := Lib.hid hal
      have HW := Lib.hid (H1.out.trans (HB.out.mono H1.out.size))
      obtain ⟨p, off, hA, hat⟩ := (HL.out.below HW.out (Nat.le_refl _)).get hal
      obtain ⟨c0, c1, c2, c3, c4, c5, c6, c7, c8, c9, c10, c11, c12⟩ := hat
      subst hA
      have ham : a ∈ l := List.mem_of_getElem? hal
      have LB := Lib.hid (HF.out a ham)
      have HSL := Lib.hid (HL.out.1 a ham)
      clear hal ham
      have T0 : Hid (∀ W, Below (w0.alloc (bx a)).heap.size (w0.alloc (bx a)) W → At W w0.heap.size 0 a ∧ Sl W K (keys.map (Value.int .i64)) ∧ Sl W a.A (a.list.map (Value.int .i64)) ∧ Below w1.heap.size w1 W) := Lib.hid fun W hW => by
        have h0 : Below w1.heap.size w1 (w0.alloc (bx a)) := HB.out.alloc HB.out.size (bx a)
        have h1 : Below w1.heap.size w1 W := h0.trans (hW.mono h0.size)
        exact ⟨(at_box w0 a).below hW (Nat.le_refl _), S1.out.below h1 (Nat.le_refl _), HSL.out.below (H1.out.trans (h1.mono H1.out.size)) (Nat.le_refl _), h1⟩
      have DO : Hid (∀ W, Calls Tryz.prog 20 #[a.val] W fun e w' => e = .returned (.bool (openB a)) ∧ Below W.heap.size W w') := Lib.hid fun W => rOpen_any a W
      have DI : Hid (∀ W, Calls Tryz.prog 46 #[a.val] W fun e w' => e = .returned (.bool (idleB a)) ∧ Below W.heap.size W w') := Lib.hid fun W => rIdle_any a W
      have NL : Hid (notListed keys a = (!openB a && !idleB a && !listedB a keys)) := Lib.hid rfl
      have LE : Hid (listedB a keys = if a.k ≠ 17 ∨ a.is = false then decide (a.list.length = 0) else risesB keys a.list) := Lib.hid rfl
      generalize openB a = ob at DO NL
      generalize idleB a = ib at DI NL
      generalize listedB a keys = lb at NL LE
      unfold Cl.val at DO DI
      unfold bx at T0
      have X0 := Lib.hid (T0.out _ (Below.refl _ _)).1
      obtain ⟨x0, x1, x2, x3, x4, x5, x6, x7, x8, x9, x10, x11, x12⟩ := X0.out
      go_upto_region 8 with (first | (go_at_call 20; ((with_reducible refine (DO.out _).mono ?_); rintro e w6 ⟨rfl, hb⟩; have H6 := Lib.hid hb; clear x0 x1 x2 x3 x4 x5 x6 x7 x8 x9 x10 x11 x12; obtain ⟨x0, x1, x2, x3, x4, x5, x6, x7, x8, x9, x10, x11, x12⟩ := (T0.out _ H6.out).1; clear hb)) | (go_at_call 46; ((with_reducible refine (DI.out _).mono ?_); rintro e w7 ⟨rfl, hb⟩; have H7 := Lib.hid (H6.out.trans (hb.mono H6.out.size)); clear x0 x1 x2 x3 x4 x5 x6 x7 x8 x9 x10 x11 x12; clear hb)))
      clear c0 c1 c2 c3 c4 c5 c6 c7 c8 c9 c10 c11 c12 X0
      clear DO DI
      cases ob
      case true =>
        have hst := Lib.hid (step_no HG.out HAL.out (NL.out.trans (by simp)))
        have HE := Lib.hid (T0.out _ H7.out).2.2.2
        go_wp2
        go_roundw
        case rel => exact ⟨i + 1, by omega, by go_num, hst.out, HE.out⟩
        case measure => simp [intOf]; omega
      case false =>
      cases ib
      case true =>
        have hst := Lib.hid (step_no HG.out HAL.out (NL.out.trans (by simp)))
        have HE := Lib.hid (T0.out _ H7.out).2.2.2
        go_wp2
        go_roundw
        case rel => exact ⟨i + 1, by omega, by go_num, hst.out, HE.out⟩
        case measure => simp [intOf]; omega
      case false =>
      obtain ⟨bd, hbd⟩ : ∃ bd : Bool, bd = (decide (0 < a.list.length) && (decide (a.k ≠ 17) || !a.is)) := ⟨_, rfl⟩
      have BD := Lib.hid hbd
      clear hbd
      obtain ⟨x0, x1, x2, x3, x4, x5, x6, x7, x8, x9, x10, x11, x12⟩ := (T0.out _ H7.out).1
      go_upto_region 10 with fail
      go_cut [48] from 13 to 78 (fun v wx => v = .bool bd ∧ wx = w7)
      case first =>
        by_cases h0 : 0 < a.list.length
        · have t1 : decide ((0 : Int) < (a.list.length : Int)) = true := decide_eq_true (by omega)
          have t2 : decide (0 < a.list.length) = true := decide_eq_true h0
          by_cases hk : a.k = 17
          · have g1 : (a.k != 17) = false := by simpa using hk
            cases hs : a.is
            · have hr := Lib.hid (show bd = true from by rw [BD.out, t2, decide_eq_false (fun z => z hk), hs]; rfl)
              rw [hs] at x9
              clear hs hk h0
              go_wp2
              go_meet
              exact ⟨by rw [hr.out], rfl⟩
            · have hr := Lib.hid (show bd = false from by rw [BD.out, t2, decide_eq_false (fun z => z hk), hs]; rfl)
              rw [hs] at x9
              clear hs hk h0
              go_wp2
              go_meet
              exact ⟨by rw [hr.out], rfl⟩
          · have g1 : (a.k != 17) = true := by simpa using hk
            have hr := Lib.hid (show bd = true from by rw [BD.out, t2, decide_eq_true hk]; rfl)
            clear hk h0
            go_wp2
            go_meet
            exact ⟨by rw [hr.out], rfl⟩
        · have t1 : decide ((0 : Int) < (a.list.length : Int)) = false := decide_eq_false (by omega)
          have t2 : decide (0 < a.list.length) = false := decide_eq_false h0
          have hr := Lib.hid (show bd = false from by rw [BD.out, t2]; rfl)
          clear h0
          go_wp2
          go_meet
          exact ⟨by rw [hr.out], rfl⟩
      case rest =>
      obtain ⟨rfl, rfl⟩ := hcut
      clear x0 x1 x2 x3 x4 x5 x6 x7 x8 x9 x10 x11 x12
      cases bd
      case true =>
        have hx := Lib.hid (any_yes HAL.out (f := notListed keys) (by
          rw [NL.out, LE.out]
          have h := BD.out
          simp only [Bool.true_eq, Bool.and_eq_true, decide_eq_true_eq, Bool.or_eq_true, Bool.not_eq_true'] at h
          rw [if_pos h.2, decide_eq_false (by omega)]
          rfl))
        have HE := Lib.hid (T0.out _ H7.out).2.2.2
        go_wp2
        go_ret
        exact ⟨by rw [hx.out]; rfl, H1.out.trans (HE.out.mono H1.out.size)⟩
      case false =>
      have HRB : Hid (notListed keys a = !risesB keys a.list) := Lib.hid (by
        rw [NL.out, LE.out]
        have h := BD.out
        by_cases h0 : 0 < a.list.length
        · rw [decide_eq_true h0] at h
          have h2 : ¬ (a.k ≠ 17 ∨ a.is = false) := fun z => by
            have : (decide (a.k ≠ 17) || !a.is) = true := by simpa using z
            rw [this] at h; cases h
          rw [if_neg h2]; rfl
        · have hr : risesB keys a.list = true := rises_all (i := 0) (by omega) (fun j hj => by omega)
          rw [hr]
          split
          · rw [decide_eq_true (by omega)]; rfl
          · rfl)
      clear NL LE BD
      have lb' := LB.out
      obtain ⟨x0, x1, x2, x3, x4, x5, x6, x7, x8, x9, x10, x11, x12⟩ := (T0.out _ H7.out).1
      go_upto_region 12 with fail
      clear x0 x1 x2 x3 x4 x5 x6 x7 x8 x9 x10 x11 x12
      go_wp2
      obtain ⟨nl, hnl⟩ : ∃ nl, nl = a.list.length := ⟨_, rfl⟩
      have HNL := Lib.hid hnl
      rw [← hnl] at lb' ⊢
      clear hnl
      go_loopw [9] (fun v wr => ∃ j : Nat, j ≤ nl ∧ v = .int .i64 j ∧ (∀ t, t < j → GoodAt keys a.list t) ∧ Below (w0.alloc (bx a)).heap.size (w0.alloc (bx a)) wr) (fun v _ => nl - (intOf v).toNat)
      case atStart => exact ⟨0, Nat.zero_le _, rfl, fun t ht => by omega, H7.out⟩
      case round =>
        clear H7
        obtain ⟨j, hj, rfl, hgd, hb⟩ := hrel
        have H7 := Lib.hid hb
        have GD := Lib.hid hgd
        clear hb hgd
        obtain ⟨w8, hw8⟩ : ∃ w8, w8 = wr := ⟨_, rfl⟩
        subst hw8
        have HE := Lib.hid (T0.out _ H7.out).2.2.2
        by_cases hlj : j < nl
        · have j0 : (0 : Int) ≤ (j : Int) := by omega
          have j1 : (j : Int) < (nl : Int) := by omega
          have n5 : IntKind.i64.wrap ((j : Int) + 1) = (j : Int) + 1 := by rw [IntKind.wrap_i64] <;> omega
          obtain ⟨lb0, lo, hA', hc⟩ := (T0.out _ H7.out).2.2.1 (by rw [List.length_map, ← HNL.out]; omega)
          have gd : ∀ t (ht : t < a.list.length), a.list.getD t 0 = a.list[t] := fun t ht => by rw [List.getD_eq_getElem?_getD, List.getElem?_eq_getElem ht]; rfl
          have cj := hc j (.int .i64 (a.list.getD j 0)) (by rw [List.getElem?_map, gd j (by rw [← HNL.out]; exact hlj), List.getElem?_eq_getElem]; rfl)
          have DV := Lib.hid (in_any K kd keys.length keys (a.list.getD j 0) w8 rfl (T0.out _ H7.out).2.1 (by omega))
          rw [hA']
          cases hq : keys.contains (a.list.getD j 0)
          · have hx := Lib.hid (any_yes HAL.out (f := notListed keys) (HRB.out.trans (by rw [rises_no (keys := keys) (show j < a.list.length by rw [← HNL.out]; exact hlj) (fun z => by rw [z.1] at hq; cases hq)]; rfl)))
            rw [hq] at DV
            clear hq hc gd hA'
            generalize a.list.getD j 0 = x at DV cj
            go_wp2_with (go_at_call 47; ((with_reducible refine DV.out.mono ?_); rintro e w9 ⟨rfl, rfl⟩))
            go_quiet (fail)
            go_wp2
            go_ret
            exact ⟨by rw [hx.out]; rfl, below_drewN (H1.out.trans (HE.out.mono H1.out.size)) _⟩
          · rw [hq] at DV
            by_cases hj0 : j = 0
            · subst hj0
              have hst := Lib.hid (good_step GD.out ⟨hq, fun z => by omega⟩)
              clear hq hc gd hA'
              generalize a.list.getD 0 0 = x at DV cj
              rw [Nat.add_zero] at cj
              go_wp2_with (go_at_call 47; ((with_reducible refine DV.out.mono ?_); rintro e w9 ⟨rfl, rfl⟩))
              go_quiet (fail)
              go_wp2
              first
                | (refine ⟨⟨0 + 1, by omega, by go_num, hst.out, below_drewN H7.out _⟩, by simp [intOf]; omega⟩)
                | (go_roundw
                   case rel => first | exact ⟨0 + 1, by omega, by go_num, hst.out, below_drewN H7.out _⟩ | ((repeat apply Exists.intro); exact ⟨⟨0 + 1, by omega, by go_num, hst.out, below_drewN H7.out _⟩, rfl⟩)
                   case measure => simp [intOf]; omega)
            · obtain ⟨t, rfl⟩ : ∃ t, j = t + 1 := ⟨j - 1, by omega⟩
              have ci := hc t (.int .i64 (a.list.getD t 0)) (by rw [List.getElem?_map, gd t (by rw [← HNL.out]; omega), List.getElem?_eq_getElem]; rfl)
              have q0 : (0 : Int) ≤ (t : Int) := by omega
              have q1 : (t : Int) < (nl : Int) := by omega
              have n4 : IntKind.i64.wrap ((t : Int) + 1 - 1) = (t : Int) := by rw [IntKind.wrap_i64] <;> omega
              have n4b : IntKind.i64.wrap (t : Int) = (t : Int) := by rw [IntKind.wrap_i64] <;> omega
              have n6 : decide ((0 : Int) < (t : Int) + 1) = true := decide_eq_true (by omega)
              have n7 : IntKind.i64.wrap ((t : Int) + 1 + 1) = (t : Int) + 1 + 1 := by rw [IntKind.wrap_i64] <;> omega
              by_cases hlt2 : a.list.getD t 0 < a.list.getD (t + 1) 0
              · have hst := Lib.hid (good_step GD.out ⟨hq, fun _ => hlt2⟩)
                have t1 : decide (a.list.getD (t + 1) 0 ≤ a.list.getD t 0) = false := by simp only [decide_eq_false_iff_not]; omega
                clear hq hc gd hlt2 hA' hj0
                generalize a.list.getD (t + 1) 0 = y at DV cj t1
                generalize a.list.getD t 0 = y0 at ci t1
                go_wp2_with (go_at_call 47; ((with_reducible refine DV.out.mono ?_); rintro e w9 ⟨rfl, rfl⟩))
                go_quiet (fail)
                go_wp2
                first
                  | (refine ⟨⟨t + 1 + 1, by omega, by go_num, hst.out, below_drewN H7.out _⟩, by simp [intOf]; omega⟩)
                  | (go_roundw
                     case rel => first | exact ⟨t + 1 + 1, by omega, by go_num, hst.out, below_drewN H7.out _⟩ | ((repeat apply Exists.intro); exact ⟨⟨t + 1 + 1, by omega, by go_num, hst.out, below_drewN H7.out _⟩, rfl⟩)
                     case measure => simp [intOf]; omega)
              · have hx := Lib.hid (any_yes HAL.out (f := notListed keys) (HRB.out.trans (by rw [rises_no (keys := keys) (show t + 1 < a.list.length by rw [← HNL.out]; exact hlj) (fun z => hlt2 (z.2 (by omega)))]; rfl)))
                have t1 : decide (a.list.getD (t + 1) 0 ≤ a.list.getD t 0) = true := by simp only [decide_eq_true_eq]; omega
                clear hq hc gd hlt2 hA' hj0
                generalize a.list.getD (t + 1) 0 = y at DV cj t1
                generalize a.list.getD t 0 = y0 at ci t1
                go_wp2_with (go_at_call 47; ((with_reducible refine DV.out.mono ?_); rintro e w9 ⟨rfl, rfl⟩))
                go_quiet (fail)
                go_wp2
                go_ret
                exact ⟨by rw [hx.out]; rfl, below_drewN (H1.out.trans (HE.out.mono H1.out.size)) _⟩
        · have hst := Lib.hid (step_no HG.out HAL.out (HRB.out.trans (by rw [rises_all (keys := keys) (l := a.list) (i := j) (by have := HNL.out; omega) GD.out]; rfl)))
          go_wp2
          first
            | (refine ⟨⟨i + 1, by omega, by go_num, hst.out, HE.out⟩, by simp [intOf]; omega⟩)
            | (go_roundw
               case rel => first | exact ⟨i + 1, by omega, by go_num, hst.out, HE.out⟩ | ((repeat apply Exists.intro); exact ⟨⟨i + 1, by omega, by go_num, hst.out, HE.out⟩, rfl⟩)
               case measure => simp [intOf]; omega)
    · have hx := Lib.hid (any_no (f := notListed keys) (i := i) (by have := HN.out; omega) HG.out)
      go_wp2
      go_ret
      exact ⟨by rw [hx.out]; rfl, H1.out.trans (HB.out.mono H1.out.size)⟩
end Go.Proofs.YtpdfmfkoopdfgaaGreatDoor.Hs
