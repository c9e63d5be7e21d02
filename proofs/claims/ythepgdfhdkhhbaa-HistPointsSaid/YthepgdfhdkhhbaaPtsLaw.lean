/- HistPoints: the walk. -/
import Derived.Test.YthepgdfhdkhhbaaPtsPlain
import Derived.Test.YthepgdfhdkhhbaaShown
import Derived.BigQuiet
import Derived.Deep.Cut
import Derived.Deep.CutRange
namespace Go.Proofs.Ythepgdfhdkhhbaa
open Go.RowKit Aid
set_option maxRecDepth 100000 in
theorem hp_long (A : Option Addr) (c n : Nat) (w : World) (h : 12 < n) :
    Calls Try.prog 5 #[.slice A n c] w fun e w' => e = .returned (.bool true) ∧ Below w.heap.size w w' := by
  have D1 := Lib.hid (shown_any w)
  have d1 : decide ((12 : Int) < (n : Int)) = true := by simp; omega
  have d2 : decide (12 < n) = true := by simp; omega
  go_enter Try.func5, Try.ntmps5
  go_wp2_with (go_at_call 8; ((with_reducible refine D1.out.mono ?_); rintro e w1 ⟨rfl, hb⟩; have H1 := Lib.hid hb; clear hb))
  go_ret
  exact ⟨rfl, H1.out⟩
set_option maxRecDepth 100000 in
theorem hp_wrong (A : Option Addr) (c n : Nat) (l : List Cl) (w : World) (hn : n = l.length) (hl : Cls w A l) (h12 : n ≤ 12) (hr : rightB l = false) :
    Calls Try.prog 5 #[.slice A n c] w fun e w' => e = .returned (.bool true) ∧ Below w.heap.size w w' := by
  have D1 := Lib.hid (shown_any w)
  have HR : Hid (∀ W, Below w.heap.size w W → Calls Try.prog 9 #[.slice A n c] W fun e w' => e = .returned (.bool false) ∧ Below W.heap.size W w') := Lib.hid (fun W hW => by have := refRight_any A c n l W hn (hl.below hW (Nat.le_refl _)) (by omega); rw [hr] at this; exact this)
  have d1 : decide ((12 : Int) < (n : Int)) = false := by simp; omega
  have d2 : decide (12 < n) = false := by simp; omega
  clear hn hl hr
  go_enter Try.func5, Try.ntmps5
  go_wp2_with (first
    | (go_at_call 8; ((with_reducible refine D1.out.mono ?_); rintro e w1 ⟨rfl, hb⟩; have H1 := Lib.hid hb; have D2 := Lib.hid (HR.out _ hb); clear hb))
    | (go_at_call 9; ((with_reducible refine D2.out.mono ?_); rintro e w2 ⟨rfl, hb⟩; have H2 := Lib.hid (H1.out.trans (hb.mono H1.out.size)); clear hb)))
  go_ret
  exact ⟨rfl, H2.out⟩
set_option maxRecDepth 100000 in
theorem hp_unl (A : Option Addr) (c n : Nat) (l : List Cl) (w : World) (hn : n = l.length) (hl : Cls w A l) (h12 : n ≤ 12) (hf : ∀ a ∈ l, a.list.length ≤ 9223372036854775807) (hr : rightB l = true) (hu : (!l.any (notListed (keysOf l))) = false) :
    Calls Try.prog 5 #[.slice A n c] w fun e w' => e = .returned (.bool true) ∧ Below w.heap.size w w' := by
  have D1 := Lib.hid (shown_any w)
  have HR : Hid (∀ W, Below w.heap.size w W → Calls Try.prog 9 #[.slice A n c] W fun e w' => e = .returned (.bool true) ∧ Below W.heap.size W w') := Lib.hid (fun W hW => by have := refRight_any A c n l W hn (hl.below hW (Nat.le_refl _)) (by omega); rw [hr] at this; exact this)
  have HL : Hid (∀ W, Below w.heap.size w W → Calls Try.prog 19 #[.slice A n c] W fun e w' => e = .returned (.bool false) ∧ Below W.heap.size W w') := Lib.hid (fun W hW => by have := listedH_any A c n l W hn (hl.below hW (Nat.le_refl _)) (by omega) hf; rw [hu] at this; exact this)
  have d1 : decide ((12 : Int) < (n : Int)) = false := by simp; omega
  have d2 : decide (12 < n) = false := by simp; omega
  clear hn hl hr hf hu
  go_enter Try.func5, Try.ntmps5
  go_wp2_with (first
    | (go_at_call 8; ((with_reducible refine D1.out.mono ?_); rintro e w1 ⟨rfl, hb⟩; have H1 := Lib.hid hb; have D2 := Lib.hid (HR.out _ hb); clear hb))
    | (go_at_call 9; ((with_reducible refine D2.out.mono ?_); rintro e w2 ⟨rfl, hb⟩; have H2 := Lib.hid (H1.out.trans (hb.mono H1.out.size)); have D3 := Lib.hid (HL.out _ H2.out); clear hb))
    | (go_at_call 19; ((with_reducible refine D3.out.mono ?_); rintro e w3 ⟨rfl, hb⟩; have H3 := Lib.hid (H2.out.trans (hb.mono H2.out.size)); clear hb)))
  go_ret
  exact ⟨rfl, H3.out⟩
set_option maxHeartbeats 16000000 in
set_option maxRecDepth 100000 in
theorem hp_full (A : Option Addr) (c n : Nat) (l : List Cl) (w : World) (hn : n = l.length) (hl : Cls w A l) (h12 : n ≤ 12) (hf : ∀ a ∈ l, a.list.length ≤ 9223372036854775807) (hr : rightB l = true) (hu : (!l.any (notListed (keysOf l))) = true) :
    Calls Try.prog 5 #[.slice A n c] w fun e w' => e = .returned (.bool true) ∧ Below w.heap.size w w' := by
  have HN := Lib.hid hn
  have HL0 := Lib.hid hl
  have HF := Lib.hid hf
  have D1 := Lib.hid (shown_any w)
  have HR : Hid (∀ W, Below w.heap.size w W → Calls Try.prog 9 #[.slice A n c] W fun e w' => e = .returned (.bool true) ∧ Below W.heap.size W w') := Lib.hid (fun W hW => by have := refRight_any A c n l W hn (hl.below hW (Nat.le_refl _)) (by omega); rw [hr] at this; exact this)
  have HL : Hid (∀ W, Below w.heap.size w W → Calls Try.prog 19 #[.slice A n c] W fun e w' => e = .returned (.bool true) ∧ Below W.heap.size W w') := Lib.hid (fun W hW => by have := listedH_any A c n l W hn (hl.below hW (Nat.le_refl _)) (by omega) hf; rw [hu] at this; exact this)
  have HP : Hid (∀ W, Below w.heap.size w W → Calls Try.prog 22 #[.slice A n c] W fun e w' => ∃ B d, e = .returned (.slice B (pointsK l (keysOf l)).length d) ∧ Sl w' B (flat (pointsK l (keysOf l))) ∧ Below W.heap.size W w') := Lib.hid (fun W hW => points_any A c n l W hn (hl.below hW (Nat.le_refl _)) (by omega) hf)
  have HK : Hid (∀ W, Below w.heap.size w W → Calls Try.prog 17 #[.slice A n c] W fun e w' => ∃ B d, e = .returned (.slice B (keysOf l).length d) ∧ Sl w' B ((keysOf l).map (Value.int .i64)) ∧ Below W.heap.size W w') := Lib.hid (fun W hW => (keys_any A c n l W hn (hl.below hW (Nat.le_refl _)) (by omega)).mono fun e w' ⟨B, d, h1, h2, h3⟩ => ⟨B, d, h1, own_sl h2, h3⟩)
  have NL : Hid (∀ a ∈ l, notListed (keysOf l) a = false) := Lib.hid (fun a ha => by
    cases h : notListed (keysOf l) a
    · rfl
    · rw [List.any_eq_true.2 ⟨a, ha, h⟩] at hu; cases hu)
  have KL := Lib.hid (keys_lt l)
  have kl := keys_len l
  have pl := points_le (keysOf l) l
  have kb : (keysOf l).length ≤ 24 := by omega
  have pb : (pointsK l (keysOf l)).length ≤ 300 := Nat.le_trans pl (Nat.le_trans (Nat.mul_le_mul (show l.length ≤ 12 by omega) (show (keysOf l).length + 1 ≤ 25 by omega)) (by decide))
  clear kl pl
  generalize keysOf l = keys at HP HK NL KL kb pb
  obtain ⟨F, F0, Fn, Fu, Fg, Fe⟩ : ∃ F : Nat → Nat, F 0 = 0 ∧ (∀ i a, l[i]? = some a → F (i + 1) = F i + (ptsOf a keys).length) ∧ (∀ i a, l[i]? = some a → F i + (ptsOf a keys).length ≤ (pointsK l keys).length) ∧ (∀ i a, l[i]? = some a → ∀ j, j < (ptsOf a keys).length → (pointsK l keys)[F i + j]? = (ptsOf a keys)[j]?) ∧ F n = (pointsK l keys).length := by
    refine ⟨fun i => (pointsK (l.take i) keys).length, rfl, fun i a hi => ?_, fun i a hi => points_upto hi, fun i a hi j hj => points_get hi hj, by show (pointsK (l.take n) keys).length = _; rw [hn, List.take_length]⟩
    obtain ⟨h1, h2⟩ := List.getElem?_eq_some_iff.1 hi
    show (pointsK (l.take (i + 1)) keys).length = _
    rw [points_next h1, List.length_append, h2]
  generalize pointsK l keys = ps at HP pb Fu Fg Fe
  have F0' := Lib.hid F0
  have Fn' := Lib.hid Fn
  have Fu' := Lib.hid Fu
  have Fg' := Lib.hid Fg
  have Fe' := Lib.hid Fe
  have d1 : decide ((12 : Int) < (n : Int)) = false := by simp; omega
  have d2 : decide (12 < n) = false := by simp; omega
  clear hn hl hr hf hu F0 Fn Fu Fg Fe
  go_enter Try.func5, Try.ntmps5
  go_wp2_with (first
    | (go_at_call 8; ((with_reducible refine D1.out.mono ?_); rintro e w1 ⟨rfl, hb⟩; have H1 := Lib.hid hb; have D2 := Lib.hid (HR.out _ hb); clear hb))
    | (go_at_call 9; ((with_reducible refine D2.out.mono ?_); rintro e w2 ⟨rfl, hb⟩; have H2 := Lib.hid (H1.out.trans (hb.mono H1.out.size)); have D3 := Lib.hid (HL.out _ H2.out); clear hb))
    | (go_at_call 19; ((with_reducible refine D3.out.mono ?_); rintro e w3 ⟨rfl, hb⟩; have H3 := Lib.hid (H2.out.trans (hb.mono H2.out.size)); have D4 := Lib.hid (HP.out _ H3.out); clear hb))
    | (go_at_call 22; ((with_reducible refine D4.out.mono ?_); rintro e w4 ⟨B, bd, rfl, hs, hb⟩; have S4 := Lib.hid hs; have H4 := Lib.hid (H3.out.trans (hb.mono H3.out.size)); have D5 := Lib.hid (HK.out _ H4.out); clear hb hs))
    | (go_at_call 17; ((with_reducible refine D5.out.mono ?_); rintro e w5 ⟨K, kd, rfl, hs, hb⟩; have K5 := Lib.hid hs; have H5 := Lib.hid (H4.out.trans (hb.mono H4.out.size)); have S5 := Lib.hid (S4.out.below hb (Nat.le_refl _)); clear hb hs)))
  have F0i : ((F 0 : Nat) : Int) = 0 := by rw [F0'.out]; rfl
  go_loopw [6, 7] (fun v u wr => ∃ i : Nat, i ≤ n ∧ v = .int .i64 (F i) ∧ u = .int .i64 i ∧ Below w5.heap.size w5 wr) (fun _ u _ => n - (intOf u).toNat)
  case atStart => exact ⟨0, Nat.zero_le _, by rw [F0'.out]; rfl, rfl, Below.refl _ _⟩
  case round => as_aux_lemma =>
    clear F0i
    obtain ⟨i, hi, rfl, rfl, hb⟩ := hrel
    have HB := Lib.hid hb
    clear hb
    obtain ⟨w0, hw0⟩ : ∃ w0, w0 = wr := ⟨_, rfl⟩
    subst hw0
    by_cases hlt : i < n
    · have i0 : (0 : Int) ≤ (i : Int) := by omega
      have i1 : (i : Int) < (n : Int) := by omega
      have n3 : IntKind.i64.wrap ((i : Int) + 1) = (i : Int) + 1 := by rw [IntKind.wrap_i64] <;> omega
      obtain ⟨a, hal⟩ : ∃ a, l[i]? = some a := ⟨l[i]'(by rw [← HN.out]; exact hlt), List.getElem?_eq_getElem _⟩
      have HW := Lib.hid (H5.out.trans (HB.out.mono H5.out.size))
      obtain ⟨p, off, hA, hat⟩ := (HL0.out.below HW.out (Nat.le_refl _)).get hal
      obtain ⟨c0, c1, c2, c3, c4, c5, c6, c7, c8, c9, c10, c11, c12⟩ := hat
      subst hA
      have ham : a ∈ l := List.mem_of_getElem? hal
      have LB := Lib.hid (HF.out a ham)
      have FN := Lib.hid (Fn'.out i a hal)
      have hfu := Fu'.out i a hal
      have FG := Lib.hid (Fg'.out i a hal)
      have PF := Lib.hid (pts_fact (a := a) (keys := keys))
      have YA := Lib.hid (yes_all (a := a) KL.out (NL.out a ham))
      have HSL := Lib.hid (HL0.out.1 a ham)
      clear hal ham
      obtain ⟨f, hfd⟩ : ∃ f, f = F i := ⟨_, rfl⟩
      have FD := Lib.hid hfd
      rw [← hfd] at hfu ⊢
      rw [← hfd] at FN FG
      clear hfd
      have T0 : Hid (∀ W, Below (w0.alloc (bx a)).heap.size (w0.alloc (bx a)) W → At W w0.heap.size 0 a ∧ Sl W B (flat ps) ∧ Sl W K (keys.map (Value.int .i64)) ∧ Sl W a.A (a.list.map (Value.int .i64)) ∧ Below w5.heap.size w5 W) := Lib.hid fun W hW => by
        have h0 : Below w5.heap.size w5 (w0.alloc (bx a)) := HB.out.alloc HB.out.size (bx a)
        have h1 : Below w5.heap.size w5 W := h0.trans (hW.mono h0.size)
        exact ⟨(at_box w0 a).below hW (Nat.le_refl _), S5.out.below h1 (Nat.le_refl _), K5.out.below h1 (Nat.le_refl _), HSL.out.below (H5.out.trans (h1.mono H5.out.size)) (Nat.le_refl _), h1⟩
      have DO : Hid (∀ W, Calls Try.prog 11 #[a.val] W fun e w' => e = .returned (.bool (openB a)) ∧ Below W.heap.size W w') := Lib.hid fun W => open_any a W
      have DI : Hid (∀ W, Calls Try.prog 13 #[a.val] W fun e w' => e = .returned (.bool (idleB a)) ∧ Below W.heap.size W w') := Lib.hid fun W => idle_any a W
      have QN : Hid ((openB a = true → asksB a.k = true → ptsOf a keys = []) ∧ (idleB a = true → ptsOf a keys = []) ∧ (openB a = true → asksB a.k = false → idleB a = false → (ptsOf a keys).length = 1) ∧ (openB a = false → idleB a = false → a.k ≠ 17 → (ptsOf a keys).length = 1) ∧ (openB a = false → idleB a = false → a.k = 17 → a.is = false → (ptsOf a keys).length = 1) ∧ (openB a = false → idleB a = false → a.k = 17 → a.is = true → (ptsOf a keys).length = 1 + (keys.filter isV).length)) := Lib.hid
        ⟨p_oask keys, p_idle keys, fun h1 h2 h3 => by rw [p_open keys h1 h2 h3]; rfl, fun h1 h2 h3 => by rw [p_plain keys h1 h2 h3]; rfl, fun h1 h2 h3 h4 => by rw [p_near keys h1 h2 h3, h4]; rfl, near_len⟩
      generalize ptsOf a keys = qs at FN FG PF YA QN hfu
      have KA : Hid (asksB a.k = decide (a.k = 13 ∨ a.k = 16 ∨ a.k = 17)) := Lib.hid rfl
      generalize asksB a.k = ab at QN KA
      generalize openB a = ob at DO QN PF
      generalize idleB a = ib at DI QN
      unfold Cl.val at DO DI
      unfold bx at T0
      go_upto_region 12 with fail
      go_cut [10] from 36 to 215 (fun c wx => c = .bool ab ∧ wx = w0.alloc (bx a))
      case first => as_aux_lemma =>
        obtain ⟨⟨x0, x1, x2, x3, x4, x5, x6, x7, x8, x9, x10, x11, x12⟩, _⟩ := T0.out _ (Below.refl _ _)
        by_cases h1 : a.k = 13
        · have g1 : (a.k == 13) = true := by simpa using h1
          have hr := Lib.hid (show ab = true from KA.out.trans (decide_eq_true (by omega)))
          clear h1
          go_wp2
          go_meet
          exact ⟨by rw [hr.out], rfl⟩
        · have g1 : (a.k == 13) = false := by simpa using h1
          by_cases h2 : a.k = 16
          · have g2 : (a.k == 16) = true := by simpa using h2
            have hr := Lib.hid (show ab = true from KA.out.trans (decide_eq_true (by omega)))
            clear h1 h2
            go_wp2
            go_meet
            exact ⟨by rw [hr.out], rfl⟩
          · have g2 : (a.k == 16) = false := by simpa using h2
            by_cases h3 : a.k = 17
            · have g3 : (a.k == 17) = true := by simpa using h3
              have hr := Lib.hid (show ab = true from KA.out.trans (decide_eq_true (by omega)))
              clear h1 h2 h3
              go_wp2
              go_meet
              exact ⟨by rw [hr.out], rfl⟩
            · have g3 : (a.k == 17) = false := by simpa using h3
              have hr := Lib.hid (show ab = false from KA.out.trans (decide_eq_false (by omega)))
              clear h1 h2 h3
              go_wp2
              go_meet
              exact ⟨by rw [hr.out], rfl⟩
      case rest => as_aux_lemma =>
      obtain ⟨rfl, rfl⟩ := hcut
      clear c0 c1 c2 c3 c4 c5 c6 c7 c8 c9 c10 c11 c12
      obtain ⟨x0, x1, x2, x3, x4, x5, x6, x7, x8, x9, x10, x11, x12⟩ := (T0.out _ (Below.refl _ _)).1
      go_upto_region 14 with (go_at_call 11; ((with_reducible refine (DO.out _).mono ?_); rintro e w6 ⟨rfl, hb⟩; have H6 := Lib.hid hb; clear hb))
      clear x0 x1 x2 x3 x4 x5 x6 x7 x8 x9 x10 x11 x12
      go_cut [71] from 36 to 215 (fun c wx => c = .bool ((ob && ab) || ib) ∧ Below (w0.alloc (bx a)).heap.size (w0.alloc (bx a)) wx)
      case first => as_aux_lemma =>
        obtain ⟨x0, x1, x2, x3, x4, x5, x6, x7, x8, x9, x10, x11, x12⟩ := (T0.out _ H6.out).1
        cases ob
        · go_wp2_with (go_at_call 13; ((with_reducible refine (DI.out _).mono ?_); rintro e w7 ⟨rfl, hb⟩; have H7 := Lib.hid (H6.out.trans (hb.mono H6.out.size)); clear hb))
          go_meet
          exact ⟨rfl, H7.out⟩
        · cases ab
          · go_wp2_with (go_at_call 13; ((with_reducible refine (DI.out _).mono ?_); rintro e w7 ⟨rfl, hb⟩; have H7 := Lib.hid (H6.out.trans (hb.mono H6.out.size)); clear hb))
            go_meet
            exact ⟨rfl, H7.out⟩
          · go_wp2
            go_meet
            exact ⟨rfl, H6.out⟩
      case rest => as_aux_lemma =>
      obtain ⟨rfl, hb7⟩ := hcut
      have H7 := Lib.hid hb7
      clear hb7 H6
      have QZ : Hid ((((ob && ab) || ib) = true → qs.length = 0) ∧ (((ob && ab) || ib) = false → (!ob && decide (a.k = 17) && a.is) = false → qs.length = 1) ∧ (((ob && ab) || ib) = false → (!ob && decide (a.k = 17) && a.is) = true → qs.length = 1 + (keys.filter isV).length)) := Lib.hid (by
        obtain ⟨q1, q2, q3, q4, q5, q6⟩ := QN.out
        refine ⟨fun h => ?_, fun h h2 => ?_, fun h h2 => ?_⟩
        · cases ib
          · cases ob
            · cases h
            · cases ab
              · cases h
              · rw [q1 rfl rfl]; rfl
          · rw [q2 rfl]; rfl
        · cases ib
          · cases ob
            · by_cases hk : a.k = 17
              · refine q5 rfl rfl hk ?_
                rw [decide_eq_true hk] at h2
                simpa using h2
              · exact q4 rfl rfl hk
            · cases ab
              · exact q3 rfl rfl rfl
              · cases h
          · rw [Bool.or_true] at h; cases h
        · have h3 : ib = false := (Bool.or_eq_false_iff.1 h).2
          simp only [Bool.and_eq_true, Bool.not_eq_true', decide_eq_true_eq] at h2
          exact q6 h2.1.1 h3 h2.1.2 h2.2)
      generalize ((ob && ab) || ib) = z at QZ ⊢
      clear QN KA
      go_upto_if 71 with fail
      go_cut [9] from 36 to 215 (fun m wx => m = .int .i64 (bif z then 0 else 1) ∧ wx = wc)
      case first => as_aux_lemma =>
        cases z
        · go_wp2
          go_meet
          exact ⟨rfl, rfl⟩
        · go_wp2
          go_meet
          exact ⟨rfl, rfl⟩
      case rest => as_aux_lemma =>
      obtain ⟨rfl, rfl⟩ := hcut
      go_upto_region 16 with fail
      go_cut [88] from 36 to 215 (fun c wx => c = .bool (!z && (!ob && decide (a.k = 17) && a.is)) ∧ wx = wc)
      case first => as_aux_lemma =>
        obtain ⟨x0, x1, x2, x3, x4, x5, x6, x7, x8, x9, x10, x11, x12⟩ := (T0.out _ H7.out).1
        cases z
        · cases ob
          · by_cases hk : a.k = 17
            · have g1 : (a.k == 17) = true := by simpa using hk
              have G2 := Lib.hid (show decide (a.k = 17) = true from decide_eq_true hk)
              clear hk
              cases hs : a.is
              · rw [hs] at x9
                have HS := Lib.hid hs
                clear hs
                go_wp2
                go_meet
                exact ⟨by rw [G2.out, HS.out]; rfl, rfl⟩
              · rw [hs] at x9
                have HS := Lib.hid hs
                clear hs
                go_wp2
                go_meet
                exact ⟨by rw [G2.out, HS.out]; rfl, rfl⟩
            · have g1 : (a.k == 17) = false := by simpa using hk
              have G2 := Lib.hid (show decide (a.k = 17) = false from decide_eq_false hk)
              clear hk
              go_wp2
              go_meet
              exact ⟨by rw [G2.out]; rfl, rfl⟩
          · go_wp2
            go_meet
            exact ⟨rfl, rfl⟩
        · go_wp2
          go_meet
          exact ⟨rfl, rfl⟩
      case rest => as_aux_lemma =>
      obtain ⟨rfl, rfl⟩ := hcut
      generalize (!ob && decide (a.k = 17) && a.is) = fb at QZ ⊢
      obtain ⟨m, hm⟩ : ∃ m, m = qs.length := ⟨_, rfl⟩
      have HM := Lib.hid hm
      rw [← hm] at hfu
      clear hm
      go_upto_if 88 with fail
      go_cut [9] from 36 to 215 (fun v wx => v = .int .i64 (m : Nat) ∧ wx = wc)
      case first => as_aux_lemma =>
        obtain ⟨z1, z2, z3⟩ := QZ.out
        cases z
        · cases fb
          · have hm := HM.out.trans (z2 rfl rfl)
            go_wp2
            go_meet
            exact ⟨by rw [hm]; rfl, rfl⟩
          · have hm := Lib.hid (HM.out.trans (z3 rfl rfl))
            clear z1 z2 z3
            obtain ⟨G, G0, Gn, Gb, Ge⟩ : ∃ G : Nat → Nat, G 0 = 1 ∧ (∀ k (h : k < keys.length), G (k + 1) = G k + (if isV keys[k] then 1 else 0)) ∧ (∀ k, k ≤ keys.length → G k ≤ 25) ∧ G keys.length = m := by
              refine ⟨fun k => 1 + ((keys.take k).filter isV).length, rfl, fun k h => ?_, fun k h => ?_, ?_⟩
              · show 1 + ((keys.take (k + 1)).filter isV).length = _
                rw [filt_next h, Nat.add_assoc]
              · have h1 := List.length_filter_le isV (keys.take k)
                rw [List.length_take] at h1
                show 1 + ((keys.take k).filter isV).length ≤ 25
                omega
              · show 1 + ((keys.take keys.length).filter isV).length = m
                rw [hm.out, List.take_length]
            have GN := Lib.hid Gn
            have GB := Lib.hid Gb
            have GE := Lib.hid Ge
            have G0' := Lib.hid G0
            clear Gn Gb Ge G0
            go_wp2
            go_loopw [9, 12] (fun v u wr => ∃ k : Nat, k ≤ keys.length ∧ v = .int .i64 (G k) ∧ u = .int .i64 k ∧ wr = wc) (fun _ u _ => keys.length - (intOf u).toNat)
            case atStart => exact ⟨0, Nat.zero_le _, by rw [G0'.out]; rfl, rfl, rfl⟩
            case round => as_aux_lemma =>
              obtain ⟨k, hk, rfl, rfl, rfl⟩ := hrel
              by_cases hlk : k < keys.length
              · have k0 : (0 : Int) ≤ (k : Int) := by omega
                have k1 : (k : Int) < (keys.length : Int) := by omega
                have n5 : IntKind.i64.wrap ((k : Int) + 1) = (k : Int) + 1 := by rw [IntKind.wrap_i64] <;> omega
                have gb := GB.out k hk
                have n6 : IntKind.i64.wrap ((G k : Int) + 1) = (G k : Int) + 1 := by rw [IntKind.wrap_i64] <;> omega
                have gn := Lib.hid (GN.out k hlk)
                obtain ⟨kb', ko, hK, hc⟩ := (T0.out _ H7.out).2.2.1 (by rw [List.length_map]; omega)
                subst hK
                have kc := hc k (.int .i64 keys[k]) (by rw [List.getElem?_map, List.getElem?_eq_getElem hlk]; rfl)
                clear hc
                generalize keys[k] = x at kc gn
                have DV := Lib.hid (is_any x wr)
                cases hv : isV x
                · rw [hv] at DV gn
                  have e9 : ((G (k + 1) : Nat) : Int) = (G k : Int) := by rw [gn.out]; rfl
                  have E9 := Lib.hid e9
                  clear hv gb e9
                  go_wp2_with (go_at_call 24; ((with_reducible refine DV.out.mono ?_); rintro e w9 ⟨rfl, rfl⟩))
                  go_roundw
                  case rel => exact ⟨k + 1, by omega, by rw [E9.out], by go_num, by first | rfl | trivial⟩
                  case measure => simp [intOf]; omega
                · rw [hv] at DV gn
                  have e9 : ((G (k + 1) : Nat) : Int) = (G k : Int) + 1 := by rw [gn.out]; rfl
                  have E9 := Lib.hid e9
                  clear hv gb e9
                  go_wp2_with (go_at_call 24; ((with_reducible refine DV.out.mono ?_); rintro e w9 ⟨rfl, rfl⟩))
                  go_roundw
                  case rel => exact ⟨k + 1, by omega, by rw [E9.out], by go_num, by first | rfl | trivial⟩
                  case measure => simp [intOf]; omega
              · obtain rfl : k = keys.length := by omega
                rw [GE.out]
                go_wp2
                go_meet
                exact ⟨rfl, by first | rfl | trivial⟩
        · have hm := HM.out.trans (z1 rfl)
          rw [show (!true && fb) = false from rfl]
          go_wp2
          go_meet
          exact ⟨by rw [hm]; rfl, rfl⟩
      case rest => as_aux_lemma =>
      obtain ⟨rfl, rfl⟩ := hcut
      clear QZ DO DI
      have m0 : m ≤ 300 := by omega
      have n7 : IntKind.i64.wrap ((f : Int) + (m : Int)) = (f : Int) + (m : Int) := by rw [IntKind.wrap_i64] <;> omega
      have n8 : decide ((ps.length : Int) < (f : Int) + (m : Int)) = false := decide_eq_false (by omega)
      obtain ⟨Y, Y0, Y1, Yn, Yb, Ye⟩ : ∃ Y : Nat → Nat, Y f = 0 ∧ Y (f + 1) = 0 ∧ (∀ j q, f < j → qs[j - f]? = some q → Y (j + 1) = Y j + (if q.is then 1 else 0)) ∧ (∀ j, Y j ≤ 300) ∧ Y (f + m) = yesN qs m := by
        refine ⟨fun j => yesN qs (j - f), by show yesN qs (f - f) = 0; rw [Nat.sub_self]; exact yes_0 qs, by show yesN qs (f + 1 - f) = 0; rw [Nat.add_sub_cancel_left]; exact yes_1 qs, fun j q hj hq => ?_, fun j => ?_, by show yesN qs (f + m - f) = _; rw [Nat.add_sub_cancel_left]⟩
        · obtain ⟨t, rfl⟩ : ∃ t, j = f + (t + 1) := ⟨j - f - 1, by omega⟩
          rw [Nat.add_sub_cancel_left] at hq
          show yesN qs (f + (t + 1) + 1 - f) = yesN qs (f + (t + 1) - f) + _
          rw [Nat.add_sub_cancel_left, show f + (t + 1) + 1 - f = t + 2 by omega]
          exact yes_next hq
        · have := yes_le qs (j - f)
          have := HM.out
          show yesN qs (j - f) ≤ 300
          omega
      have YN := Lib.hid Yn
      have YB := Lib.hid Yb
      have YE := Lib.hid Ye
      have Y0' := Lib.hid Y0
      have Y1' := Lib.hid Y1
      clear Yn Yb Ye Y0 Y1
      go_wp2
      go_loopw [13, 14] (fun v u wr => ∃ j : Nat, f ≤ j ∧ j ≤ f + m ∧ v = .int .i64 (Y j) ∧ u = .int .i64 j ∧ Below (w0.alloc (bx a)).heap.size (w0.alloc (bx a)) wr) (fun _ u _ => f + m - (intOf u).toNat)
      case atStart => exact ⟨f, Nat.le_refl _, by omega, by rw [Y0'.out]; rfl, rfl, H7.out⟩
      case round => as_aux_lemma =>
        clear H7
        obtain ⟨j, hj1, hj2, rfl, rfl, hb⟩ := hrel
        have H7 := Lib.hid hb
        clear hb
        obtain ⟨w8, hw8⟩ : ∃ w8, w8 = wr := ⟨_, rfl⟩
        subst hw8
        by_cases hlj : j < f + m
        · have j0 : (0 : Int) ≤ (j : Int) := by omega
          have j1 : (j : Int) < (f : Int) + (m : Int) := by omega
          have j2 : (j : Int) < (ps.length : Int) := by omega
          have n5 : IntKind.i64.wrap ((j : Int) + 1) = (j : Int) + 1 := by rw [IntKind.wrap_i64] <;> omega
          obtain ⟨q, hq⟩ : ∃ q, qs[j - f]? = some q := ⟨qs[j - f]'(by rw [← HM.out]; omega), List.getElem?_eq_getElem _⟩
          have hq2 : ps[j]? = some q := by
            have h1 := FG.out (j - f) (List.getElem?_eq_some_iff.1 hq).1
            rw [show f + (j - f) = j by omega] at h1
            exact h1.trans hq
          obtain ⟨e1, e2, e3, e4, e5⟩ := PF.out q (List.mem_of_getElem? hq)
          obtain ⟨b, o, hB, q0, q1, q2, q3, q4, q5, q6, q7, q8, q9, q10, q11, q12, q13⟩ := sl_pt (T0.out _ H7.out).2.1 hq2
          subst hB
          rw [e5] at q1
          rw [e1] at q10
          rw [e2] at q12
          rw [e3] at q13
          have E4 := Lib.hid e4
          have YQ : Hid (f < j → Y (j + 1) = Y j + (if q.is then 1 else 0)) := Lib.hid fun h => YN.out j q h hq
          clear hq hq2 e1 e2 e3 e4 e5 q0 q2 q3 q4 q6 q7 q8 q9
          have yb := YB.out j
          have n6 : IntKind.i64.wrap ((Y j : Int) + 1) = (Y j : Int) + 1 := by rw [IntKind.wrap_i64] <;> omega
          obtain ⟨x0, x1, x2, x3, x4, x5, x6, x7, x8, x9, x10, x11, x12⟩ := (T0.out _ H7.out).1
          clear x0 x1 x3 x4 x8 x9 x10 x11 x12
          generalize q.is = qi at q5 YQ
          by_cases hjf : j = f
          · subst hjf
            have e9 : ((Y (j + 1) : Nat) : Int) = (Y j : Int) := by rw [Y1'.out, Y0'.out]
            have E9 := Lib.hid e9
            clear e9 yb
            cases ob
            · rw [E4.out rfl] at q11
              go_wp2
              go_quiet (fail)
              go_wp2
              first
                | (refine ⟨⟨j + 1, by omega, by omega, by rw [E9.out], by go_num, below_drewN H7.out _⟩, by show f + m - ((j : Int) + 1).toNat < f + m - (j : Int).toNat; omega⟩)
                | (go_roundw
                   case rel => exact ⟨j + 1, by omega, by omega, by rw [E9.out], by go_num, below_drewN H7.out _⟩
                   case measure => simp [intOf]; omega)
            · go_wp2
              go_quiet (fail)
              go_wp2
              first
                | (refine ⟨⟨j + 1, by omega, by omega, by rw [E9.out], by go_num, below_drewN H7.out _⟩, by show f + m - ((j : Int) + 1).toNat < f + m - (j : Int).toNat; omega⟩)
                | (go_roundw
                   case rel => exact ⟨j + 1, by omega, by omega, by rw [E9.out], by go_num, below_drewN H7.out _⟩
                   case measure => simp [intOf]; omega)
          · have hfj : f < j := by omega
            have t1 : decide ((f : Int) < (j : Int)) = true := decide_eq_true (by omega)
            have t2 : decide (f < j) = true := decide_eq_true hfj
            cases qi
            · have e9 : ((Y (j + 1) : Nat) : Int) = (Y j : Int) := by rw [YQ.out hfj]; rfl
              have E9 := Lib.hid e9
              clear e9 yb hfj hjf
              cases ob
              · rw [E4.out rfl] at q11
                go_wp2
                go_quiet (fail)
                go_wp2
                first
                  | (refine ⟨⟨j + 1, by omega, by omega, by rw [E9.out], by go_num, below_drewN H7.out _⟩, by show f + m - ((j : Int) + 1).toNat < f + m - (j : Int).toNat; omega⟩)
                  | (go_roundw
                     case rel => exact ⟨j + 1, by omega, by omega, by rw [E9.out], by go_num, below_drewN H7.out _⟩
                     case measure => simp [intOf]; omega)
              · go_wp2
                go_quiet (fail)
                go_wp2
                first
                  | (refine ⟨⟨j + 1, by omega, by omega, by rw [E9.out], by go_num, below_drewN H7.out _⟩, by show f + m - ((j : Int) + 1).toNat < f + m - (j : Int).toNat; omega⟩)
                  | (go_roundw
                     case rel => exact ⟨j + 1, by omega, by omega, by rw [E9.out], by go_num, below_drewN H7.out _⟩
                     case measure => simp [intOf]; omega)
            · have e9 : ((Y (j + 1) : Nat) : Int) = (Y j : Int) + 1 := by rw [YQ.out hfj]; rfl
              have E9 := Lib.hid e9
              clear e9 yb hfj hjf
              cases ob
              · rw [E4.out rfl] at q11
                go_wp2
                go_quiet (fail)
                go_wp2
                first
                  | (refine ⟨⟨j + 1, by omega, by omega, by rw [E9.out], by go_num, below_drewN H7.out _⟩, by show f + m - ((j : Int) + 1).toNat < f + m - (j : Int).toNat; omega⟩)
                  | (go_roundw
                     case rel => exact ⟨j + 1, by omega, by omega, by rw [E9.out], by go_num, below_drewN H7.out _⟩
                     case measure => simp [intOf]; omega)
              · go_wp2
                go_quiet (fail)
                go_wp2
                first
                  | (refine ⟨⟨j + 1, by omega, by omega, by rw [E9.out], by go_num, below_drewN H7.out _⟩, by show f + m - ((j : Int) + 1).toNat < f + m - (j : Int).toNat; omega⟩)
                  | (go_roundw
                     case rel => exact ⟨j + 1, by omega, by omega, by rw [E9.out], by go_num, below_drewN H7.out _⟩
                     case measure => simp [intOf]; omega)
        · obtain rfl : j = f + m := by omega
          clear FG PF YN YB Y0' Y1'
          obtain ⟨M, M0, Mn, Me⟩ : ∃ M : Nat → Bool, M 0 = true ∧ (∀ k (h : k < a.list.length), M (k + 1) = (M k && isV a.list[k])) ∧ M a.list.length = a.list.all isV := by
            refine ⟨fun k => (a.list.take k).all isV, rfl, fun k h => ?_, by show (a.list.take a.list.length).all isV = _; rw [List.take_length]⟩
            show (a.list.take (k + 1)).all isV = _
            rw [List.take_succ_eq_append_getElem h, List.all_append]
            simp
          have MN := Lib.hid Mn
          have ME := Lib.hid Me
          have M0' := Lib.hid M0
          have lb := LB.out
          clear Mn Me M0
          obtain ⟨x0, x1, x2, x3, x4, x5, x6, x7, x8, x9, x10, x11, x12⟩ := (T0.out _ H7.out).1
          clear x0 x1 x2 x3 x4 x5 x6 x7 x8 x9 x10 x11
          go_wp2
          go_loopw [15, 16] (fun v u wr => ∃ k : Nat, k ≤ a.list.length ∧ v = .bool (M k) ∧ u = .int .i64 k ∧ wr = w8) (fun _ u _ => a.list.length - (intOf u).toNat)
          case atStart => exact ⟨0, Nat.zero_le _, by rw [M0'.out], rfl, rfl⟩
          case round => as_aux_lemma =>
            obtain ⟨k, hk, rfl, rfl, rfl⟩ := hrel
            by_cases hlk : k < a.list.length
            · have k0 : (0 : Int) ≤ (k : Int) := by omega
              have k1 : (k : Int) < (a.list.length : Int) := by omega
              have n5 : IntKind.i64.wrap ((k : Int) + 1) = (k : Int) + 1 := by rw [IntKind.wrap_i64] <;> omega
              have mn := Lib.hid (MN.out k hlk)
              cases hM : M k
              · rw [hM] at mn
                clear hM
                go_wp2
                go_roundw
                case rel => exact ⟨k + 1, by omega, by rw [mn.out]; rfl, by go_num, by first | rfl | trivial⟩
                case measure => simp [intOf]; omega
              · rw [hM] at mn
                clear hM
                obtain ⟨lb', lo, hA', hc⟩ := (T0.out _ H7.out).2.2.2.1 (by rw [List.length_map]; omega)
                have kc := hc k (.int .i64 a.list[k]) (by rw [List.getElem?_map, List.getElem?_eq_getElem hlk]; rfl)
                rw [hA'] at x12
                clear hc hA'
                generalize a.list[k] = x at kc mn
                have DV := Lib.hid (is_any x wr)
                go_wp2_with (go_at_call 24; ((with_reducible refine DV.out.mono ?_); rintro e w9 ⟨rfl, rfl⟩))
                go_roundw
                case rel =>
                  (repeat apply Exists.intro)
                  exact ⟨⟨k + 1, by omega, by rw [mn.out, Bool.true_and], by go_num, by first | rfl | trivial⟩, rfl⟩
                case measure =>
                  show a.list.length - ((k : Int) + 1).toNat < a.list.length - (k : Int).toNat
                  omega
            · obtain rfl : k = a.list.length := by omega
              have e9 : ((F (i + 1) : Nat) : Int) = (f : Int) + (m : Int) := by rw [FN.out, ← HM.out]; omega
              have E9 := Lib.hid e9
              have HE := Lib.hid (T0.out _ H7.out).2.2.2.2
              clear e9
              by_cases h1m : 1 < m
              · have t1 : decide ((1 : Int) < (m : Int)) = true := decide_eq_true (by omega)
                have t2 : decide (1 < m) = true := decide_eq_true h1m
                cases hM : M a.list.length
                · clear hM h1m
                  go_wp2
                  go_roundw
                  case rel =>
                    exact ⟨i + 1, by omega, by rw [E9.out], by go_num, HE.out⟩
                  case measure => simp [intOf]; omega
                · have hy : Y (f + m) = a.list.length := by
                    rw [YE.out, HM.out]
                    exact YA.out (by rw [← HM.out]; exact h1m) (by rw [← ME.out]; exact hM)
                  rw [hy]
                  clear hM h1m hy
                  go_wp2
                  go_roundw
                  case rel =>
                    exact ⟨i + 1, by omega, by rw [E9.out], by go_num, HE.out⟩
                  case measure => simp [intOf]; omega
              · have t1 : decide ((1 : Int) < (m : Int)) = false := decide_eq_false (by omega)
                have t2 : decide (1 < m) = false := decide_eq_false h1m
                clear h1m
                go_wp2
                go_roundw
                case rel =>
                  exact ⟨i + 1, by omega, by rw [E9.out], by go_num, HE.out⟩
                case measure => simp [intOf]; omega
    · obtain rfl : i = n := by omega
      have fe := Fe'.out
      rw [fe]
      go_wp2
      go_ret
      exact ⟨rfl, H5.out.trans (HB.out.mono H5.out.size)⟩
theorem points_law (A : Option Addr) (c n : Nat) (l : List Cl) (w : World) (hn : n = l.length) (hl : Cls w A l) (hf : ∀ a ∈ l, a.list.length ≤ 9223372036854775807) :
    Calls Try.prog 5 #[.slice A n c] w fun e w' => e = .returned (.bool true) ∧ Below w.heap.size w w' := by
  by_cases h : 12 < n
  · exact hp_long A c n w h
  have h12 : n ≤ 12 := by omega
  cases hr : rightB l
  · exact hp_wrong A c n l w hn hl h12 hr
  cases hu : (!l.any (notListed (keysOf l)))
  · exact hp_unl A c n l w hn hl h12 hf hr hu
  · exact hp_full A c n l w hn hl h12 hf hr hu
end Go.Proofs.Ythepgdfhdkhhbaa
