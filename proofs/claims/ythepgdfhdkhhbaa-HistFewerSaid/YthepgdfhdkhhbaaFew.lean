/- HistFewer: the walk. -/
import Derived.Test.YthepgdfhdkhhbaaFewPlain
import Derived.Test.YthepgdfhdkhhbaaIn
import Derived.Test.YthepgdfhdkhhbaaShown
import Derived.BigQuiet
import Derived.Deep.Cut
import Derived.Deep.CutRange
namespace Go.Proofs.Ythepgdfhdkhhbaa
open Go.RowKit Aid
set_option maxRecDepth 100000 in
theorem few_long (A : Option Addr) (c n : Nat) (o : Int) (w : World) (h : 12 < n) :
    Calls Try.prog 6 #[.slice A n c, .int .u16 o] w fun e w' => e = .returned (.bool true) ∧ Below w.heap.size w w' := by
  have D1 := Lib.hid (shown_any w)
  have d1 : decide ((12 : Int) < (n : Int)) = true := by simp; omega
  have d2 : decide (12 < n) = true := by simp; omega
  go_enter Try.func6, Try.ntmps6
  go_wp2_with (go_at_call 8; ((with_reducible refine D1.out.mono ?_); rintro e w1 ⟨rfl, hb⟩; have H1 := Lib.hid hb; clear hb))
  go_ret
  exact ⟨rfl, H1.out⟩
set_option maxRecDepth 100000 in
theorem few_wrong (A : Option Addr) (c n : Nat) (l : List Cl) (o : Int) (w : World) (hn : n = l.length) (hl : Cls w A l) (h12 : n ≤ 12) (hr : rightB l = false) :
    Calls Try.prog 6 #[.slice A n c, .int .u16 o] w fun e w' => e = .returned (.bool true) ∧ Below w.heap.size w w' := by
  have D1 := Lib.hid (shown_any w)
  have HR : Hid (∀ W, Below w.heap.size w W → Calls Try.prog 9 #[.slice A n c] W fun e w' => e = .returned (.bool false) ∧ Below W.heap.size W w') := Lib.hid (fun W hW => by have := refRight_any A c n l W hn (hl.below hW (Nat.le_refl _)) (by omega); rw [hr] at this; exact this)
  have d1 : decide ((12 : Int) < (n : Int)) = false := by simp; omega
  have d2 : decide (12 < n) = false := by simp; omega
  clear hn hl hr
  go_enter Try.func6, Try.ntmps6
  go_wp2_with (first
    | (go_at_call 8; ((with_reducible refine D1.out.mono ?_); rintro e w1 ⟨rfl, hb⟩; have H1 := Lib.hid hb; have D2 := Lib.hid (HR.out _ hb); clear hb))
    | (go_at_call 9; ((with_reducible refine D2.out.mono ?_); rintro e w2 ⟨rfl, hb⟩; have H2 := Lib.hid (H1.out.trans (hb.mono H1.out.size)); clear hb)))
  go_ret
  exact ⟨rfl, H2.out⟩
set_option maxHeartbeats 16000000 in
set_option maxRecDepth 100000 in
theorem few_full (A : Option Addr) (c n : Nat) (l : List Cl) (o : Int) (w : World) (hn : n = l.length) (hl : Cls w A l) (hc : n ≤ c) (h12 : n ≤ 12) (hf : ∀ a ∈ l, a.list.length ≤ 9223372036854775807) (hr : rightB l = true) :
    Calls Try.prog 6 #[.slice A n c, .int .u16 o] w fun e w' => e = .returned (.bool true) ∧ Below w.heap.size w w' := by
  have HN := Lib.hid hn
  have HL := Lib.hid hl
  have HF := Lib.hid hf
  have D1 := Lib.hid (shown_any w)
  have HR : Hid (∀ W, Below w.heap.size w W → Calls Try.prog 9 #[.slice A n c] W fun e w' => e = .returned (.bool true) ∧ Below W.heap.size W w') := Lib.hid (fun W hW => by have := refRight_any A c n l W hn (hl.below hW (Nat.le_refl _)) (by omega); rw [hr] at this; exact this)
  have RP := Lib.hid (right_of hr)
  obtain ⟨ii, hi0, hz0, hz1, hz2⟩ := info_parts call_info
  have d1 : decide ((12 : Int) < (n : Int)) = false := by simp; omega
  have d2 : decide (12 < n) = false := by simp; omega
  obtain ⟨d, hd⟩ : ∃ d : Nat → Bool, ∀ i, d i = (bits BinOp.and IntKind.u16 (o / 2 ^ i) 1 == 1) := ⟨_, fun _ => rfl⟩
  have HD := Lib.hid hd
  obtain ⟨K, K0, Kn, Ki, Ks, Kl⟩ : ∃ K : Nat → List Cl, K 0 = [] ∧ (∀ i, d i = true → K (i + 1) = K i) ∧ (∀ i a, d i = false → l[i]? = some a → K (i + 1) = K i ++ [a]) ∧ List.Sublist (K n) l ∧ (∀ i, (K i).length ≤ i) := by
    refine ⟨keptN d l, rfl, fun i h => kept_out h, fun i a h ha => kept_in h ha, ?_, fun i => ?_⟩
    · have := kept_sub d l n
      rwa [hn, List.take_length, ← hn] at this
    · have := (kept_sub d l i).length_le
      rw [List.length_take] at this
      omega
  have K0' := Lib.hid K0
  have Kn' := Lib.hid Kn
  have Ki' := Lib.hid Ki
  have Ks' := Lib.hid Ks
  have Kl' := Lib.hid Kl
  clear hn hl hr hf hd K0 Kn Ki Ks Kl
  go_enter Try.func6, Try.ntmps6
  go_wp2_with (first
    | (go_at_call 8; ((with_reducible refine D1.out.mono ?_); rintro e w1 ⟨rfl, hb⟩; have H1 := Lib.hid hb; have D2 := Lib.hid (HR.out _ hb); clear hb))
    | (go_at_call 9; ((with_reducible refine D2.out.mono ?_); rintro e w2 ⟨rfl, hb⟩; have H2 := Lib.hid (H1.out.trans (hb.mono H1.out.size)); clear hb)))
  go_loopw [6, 7, 8] (fun sv v u wr => ∃ i : Nat, i ≤ n ∧ wr.ownsRow w2.heap.size 32 13 sv (K i).length (flatC (K i)) ∧ v = .int .i64 (sumP notNear (K i)) ∧ u = .int .i64 i ∧ Below w2.heap.size w2 wr) (fun _ _ u _ => n - (intOf u).toNat)
  case atStart => exact ⟨0, Nat.zero_le _, by rw [K0'.out]; exact World.ownsRow_nil _ _ _ _, by rw [K0'.out]; rfl, rfl, Below.refl _ _⟩
  case round =>
    obtain ⟨i, hi, ho, rfl, rfl, hb⟩ := hrel
    obtain ⟨T, tc, hT⟩ := own_any ho
    subst hT
    have HO := Lib.hid ho
    have HB := Lib.hid hb
    have HW := Lib.hid (H2.out.trans (hb.mono H2.out.size))
    clear hb ho
    obtain ⟨w0, hw0⟩ : ∃ w0, w0 = wr := ⟨_, rfl⟩
    subst hw0
    by_cases hlt : i < n
    · have i0 : (0 : Int) ≤ (i : Int) := by omega
      have i1 : (i : Int) < (n : Int) := by omega
      have i2 : (i : Int) + 1 ≤ (c : Int) := by omega
      have i4 : (i : Int) ≤ (i : Int) + 1 := by omega
      have i5 : (0 : Int) ≤ (i : Int) + 1 := by omega
      have n3 : IntKind.i64.wrap ((i : Int) + 1) = (i : Int) + 1 := by rw [IntKind.wrap_i64] <;> omega
      have kl := Kl'.out i
      have sb := sum_bound notNear (K i)
      cases hdi : d i
      case true =>
        have hK := Lib.hid (Kn'.out i hdi)
        have t1 : (bits BinOp.and IntKind.u16 (o / 2 ^ i) 1 == 1) = true := (HD.out i).symm.trans hdi
        clear hdi kl sb
        go_wp2
        go_roundw
        case rel => exact ⟨i + 1, by omega, by rw [hK.out]; exact HO.out, by rw [hK.out], by go_num, HB.out⟩
        case measure => simp [intOf]; omega
      case false =>
        have t1 : (bits BinOp.and IntKind.u16 (o / 2 ^ i) 1 == 1) = false := (HD.out i).symm.trans hdi
        obtain ⟨a, hal⟩ : ∃ a, l[i]? = some a := ⟨l[i]'(by rw [← HN.out]; exact hlt), List.getElem?_eq_getElem _⟩
        have hK := Lib.hid (Ki'.out i a hdi hal)
        obtain ⟨p, off, hA, _⟩ := HL.out.get hal
        subst hA
        have AT : Hid (∀ W, Below w.heap.size w W → At W p (off + i * 13) a) := Lib.hid fun W hW => by
          obtain ⟨p', o', hA, h⟩ := (HL.out.below hW (Nat.le_refl _)).get hal
          cases hA; exact h
        have DP : Hid (∀ W d, Below w.heap.size w W → Calls Try.prog 22 #[.slice (some ⟨p, off + i * 13, none⟩) 1 d] W fun e w' => ∃ B d, e = .returned (.slice B (oneP a) d) ∧ Below W.heap.size W w') := Lib.hid fun W d hW =>
          (points_any _ d 1 [a] W rfl (cls_one (HL.out.below hW (Nat.le_refl _)) hal) (by simp) (fun x hx => by rw [List.mem_singleton.1 hx]; exact HF.out a (List.mem_of_getElem? hal))).mono fun e w' ⟨B, d, h1, _, h3⟩ => ⟨B, d, h1, h3⟩
        have q1 : oneP a ≤ 3 := points_one_le a
        have A1 := Lib.hid (sl_call w0 a)
        have HOA := Lib.hid (HO.out.alloc (bx a))
        have HA := Lib.hid (HB.out.alloc HB.out.size (bx a))
        have SN : Hid (sumP notNear (K (i + 1)) = sumP notNear (K i) + (if notNear a then oneP a else 0)) := Lib.hid (by rw [hK.out, sumP_append, sumP_one])
        have fl := Lib.hid (flatC_length [a])
        have fo := Lib.hid (flatC_one [a])
        have hK2 : Hid (flatC (K (i + 1)) = flatC (K i) ++ flatC [a] ∧ (K (i + 1)).length = (K i).length + 1) := Lib.hid ⟨by rw [hK.out, flatC_append], by rw [hK.out, List.length_append]; rfl⟩
        clear hdi hal hK
        generalize flatC [a] = fa at A1 fl fo hK2
        generalize flatC (K i) = fk at HO HOA hK2
        generalize (K i).length = m at HO HOA hK2 kl sb
        generalize sumP notNear (K i) = sm at SN sb
        generalize oneP a = q at SN DP q1
        have m1 : m + 1 ≤ maxLen := by unfold maxLen; omega
        have y1 : (m + 1) * 120 ≤ 140737488355328 := by omega
        have n6 : IntKind.i64.wrap ((sm : Int) + (q : Int)) = (sm : Int) + (q : Int) := by rw [IntKind.wrap_i64] <;> omega
        clear kl sb q1
        obtain ⟨c0, c1, c2, c3, c4, c5, c6, c7, c8, c9, c10, c11, c12⟩ := AT.out _ HW.out
        unfold bx at A1 HOA HA
        by_cases h17 : a.k = 17
        · have hnn := Lib.hid (show notNear a = false from decide_eq_false (fun q => q h17))
          have t2 : (a.k != 17) = false := by simpa using h17
          have e9 : ((sumP notNear (K (i + 1)) : Nat) : Int) = (sm : Int) := by rw [SN.out, hnn.out]; simp
          have E9 := Lib.hid e9
          clear h17 e9
          go_wp2_with (first
            | (at_builtin
               refine wpList_append_sl _ rfl (.tmp 38) (.tmp 43) 22 rfl w2.heap.size 32 ii _ 13 120 Try.underlying22 hi0 hz0 hz1 hz2 rfl (by decide) _ m _ rfl HOA.out (some ⟨w0.heap.size, 0, none⟩) 1 1 fa rfl fl.out A1.out fo.out m1 y1 HA.out.size (m + 1) rfl ?_
               intro A7 c7' w7 hown7 hb7 _ _
               have HO7 := Lib.hid hown7
               have HB7 := Lib.hid (HA.out.trans hb7)
               clear hown7 hb7 c0 c1 c2 c3 c4 c5 c6 c7 c8 c9 c10 c11 c12
               obtain ⟨c0, c1, c2, c3, c4, c5, c6, c7, c8, c9, c10, c11, c12⟩ := AT.out _ (H2.out.trans (HB7.out.mono H2.out.size))))
          go_roundw
          case rel => exact ⟨i + 1, by omega, by rw [hK2.out.1, hK2.out.2]; exact HO7.out, by rw [E9.out], by go_num, HB7.out⟩
          case measure => simp [intOf]; omega
        · have hnn := Lib.hid (show notNear a = true from decide_eq_true h17)
          have t2 : (a.k != 17) = true := by simpa using h17
          have e9 : ((sumP notNear (K (i + 1)) : Nat) : Int) = (sm : Int) + (q : Int) := by rw [SN.out, hnn.out]; simp
          have E9 := Lib.hid e9
          clear h17 e9
          go_wp2_with (first
            | (at_builtin
               refine wpList_append_sl _ rfl (.tmp 38) (.tmp 43) 22 rfl w2.heap.size 32 ii _ 13 120 Try.underlying22 hi0 hz0 hz1 hz2 rfl (by decide) _ m _ rfl HOA.out (some ⟨w0.heap.size, 0, none⟩) 1 1 fa rfl fl.out A1.out fo.out m1 y1 HA.out.size (m + 1) rfl ?_
               intro A7 c7' w7 hown7 hb7 _ _
               have HO7 := Lib.hid hown7
               have HB7 := Lib.hid (HA.out.trans hb7)
               have D8 := Lib.hid (fun d => DP.out _ d (H2.out.trans (HB7.out.mono H2.out.size)))
               clear hown7 hb7 c0 c1 c2 c3 c4 c5 c6 c7 c8 c9 c10 c11 c12
               obtain ⟨c0, c1, c2, c3, c4, c5, c6, c7, c8, c9, c10, c11, c12⟩ := AT.out _ (H2.out.trans (HB7.out.mono H2.out.size)))
            | (go_at_call 22; ((with_reducible refine (D8.out _).mono ?_); rintro e w8 ⟨B, bd, rfl, hb⟩; have HO8 := Lib.hid (row_below HO7.out hb (Nat.le_refl _)); have HB8 := Lib.hid (HB7.out.trans (hb.mono HB7.out.size)); clear hb)))
          go_roundw
          case rel => exact ⟨i + 1, by omega, by rw [hK2.out.1, hK2.out.2]; exact HO8.out, by rw [E9.out], by go_num, HB8.out⟩
          case measure => simp [intOf]; omega
    · obtain rfl : i = n := by omega
      have SUBL := Lib.hid Ks'.out
      have CK0 := Lib.hid (own_cls HO.out (fun a ha => (HL.out.1 a (SUBL.out.subset ha)).below HW.out (Nat.le_refl _)))
      have tcap := own_cap HO.out
      have kl := Kl'.out i
      have RK := Lib.hid (rightB_t (right_sub SUBL.out RP.out))
      have FK : Hid (∀ a ∈ K i, a.list.length ≤ 9223372036854775807) := Lib.hid fun a ha => HF.out a (SUBL.out.subset ha)
      have KSUB : Hid (∀ x, x ∈ keysOf (K i) → x ∈ keysOf l) := Lib.hid fun x hx => keys_sub SUBL.out hx
      have mb := sum_le (K i)
      have sb := sum_bound notNear (K i)
      clear HO
      generalize K i = kk at CK0 tcap kl RK FK KSUB mb sb ⊢
      have DA := Lib.hid (keys_any A c i l w0 HN.out (HL.out.below HW.out (Nat.le_refl _)) (by have := HN.out; omega))
      have DB : Hid (∀ W, Below w0.heap.size w0 W → Calls Try.prog 17 #[.slice T kk.length tc] W fun e w' => ∃ B d, e = .returned (.slice B (keysOf kk).length d) ∧ Sl w' B ((keysOf kk).map (Value.int .i64)) ∧ Below W.heap.size W w') := Lib.hid fun W hW => (keys_any T tc kk.length kk W rfl (CK0.out.below hW (Nat.le_refl _)) (by omega)).mono fun e w' ⟨B, d, h1, h2, h3⟩ => ⟨B, d, h1, own_sl h2, h3⟩
      have DC : Hid (∀ W, Below w0.heap.size w0 W → Calls Try.prog 22 #[.slice T kk.length tc] W fun e w' => ∃ B d, e = .returned (.slice B (pointsOf kk).length d) ∧ Sl w' B (flat (pointsOf kk)) ∧ Below W.heap.size W w') := Lib.hid fun W hW => points_any T tc kk.length kk W rfl (CK0.out.below hW (Nat.le_refl _)) (by omega) FK.out
      have DD : Hid (∀ W, Below w0.heap.size w0 W → Calls Try.prog 10 #[.slice T kk.length tc] W fun e w' => e = .returned (.bool true) ∧ Below W.heap.size W w') := Lib.hid fun W hW => by
        have := right_any T tc kk.length kk W rfl (CK0.out.below hW (Nat.le_refl _)) (by omega) tcap.1 tcap.2
        rw [RK.out] at this; exact this
      have kl1 := keys_len l
      have kl2 := keys_len kk
      have hnl := HN.out
      have ks1 : (keysOf l).length ≤ 24 := by omega
      have ks2 : (keysOf kk).length ≤ 24 := by omega
      have pl := points_le (keysOf kk) kk
      have pb : (pointsOf kk).length ≤ 300 := Nat.le_trans pl (Nat.le_trans (Nat.mul_le_mul (show kk.length ≤ 12 by omega) (show (keysOf kk).length + 1 ≤ 25 by omega)) (by decide))
      obtain ⟨C, C0, Cn, Cb, Ce⟩ : ∃ C : Nat → Nat, C 0 = 0 ∧ (∀ j p, (pointsOf kk)[j]? = some p → C (j + 1) = C j + (if cnt p then 1 else 0)) ∧ (∀ j, C j ≤ 300) ∧ C (pointsOf kk).length = sumP turns kk := by
        refine ⟨fun j => (((pointsOf kk).take j).filter cnt).length, rfl, fun j p h => cnt_next h, fun j => ?_, ?_⟩
        · have h1 := List.length_filter_le cnt ((pointsOf kk).take j)
          rw [List.length_take] at h1
          show (((pointsOf kk).take j).filter cnt).length ≤ 300
          omega
        · show (((pointsOf kk).take (pointsOf kk).length).filter cnt).length = _
          rw [List.take_length]
          exact cnt_points _ kk
      have C0' := Lib.hid C0
      have Cn' := Lib.hid Cn
      have Cb' := Lib.hid Cb
      have Ce' := Lib.hid Ce
      clear hnl kl1 kl2 pl C0 Cn Cb Ce
      generalize keysOf l = ka at DA KSUB ks1
      generalize keysOf kk = kb at DB KSUB ks2
      generalize pointsOf kk = ps at DC pb Cn' Ce'
      go_wp2_with (first
        | (go_at_call 17; ((with_reducible refine DA.out.mono ?_); rintro e w3 ⟨K1, kd1, rfl, hs, hb⟩; have S3 := Lib.hid (own_sl hs); have H3 := Lib.hid hb; have D4 := Lib.hid (DB.out _ hb); clear hb hs))
        | (go_at_call 17; ((with_reducible refine D4.out.mono ?_); rintro e w4 ⟨K2, kd2, rfl, hs, hb⟩; have S4 := Lib.hid hs; have H4 := Lib.hid (H3.out.trans (hb.mono H3.out.size)); have S34 := Lib.hid (S3.out.below hb (Nat.le_refl _)); clear hb hs)))
      go_loopw [11] (fun v wr => ∃ j : Nat, j ≤ kb.length ∧ v = .int .i64 j ∧ wr = w4) (fun v _ => kb.length - (intOf v).toNat)
      case atStart => exact ⟨0, Nat.zero_le _, rfl, rfl⟩
      case round => as_aux_lemma =>
        obtain ⟨j, hj, rfl, rfl⟩ := hrel
        by_cases hlj : j < kb.length
        · have j0 : (0 : Int) ≤ (j : Int) := by omega
          have j1 : (j : Int) < (kb.length : Int) := by omega
          have n5 : IntKind.i64.wrap ((j : Int) + 1) = (j : Int) + 1 := by rw [IntKind.wrap_i64] <;> omega
          obtain ⟨kb', ko, hK, hc⟩ := S4.out (by rw [List.length_map]; omega)
          subst hK
          have kc := hc j (.int .i64 kb[j]) (by rw [List.getElem?_map, List.getElem?_eq_getElem hlj]; rfl)
          have hm : ka.contains kb[j] = true := List.contains_iff_mem.2 (KSUB.out _ (List.getElem_mem hlj))
          have DV := Lib.hid (in_any K1 kd1 ka.length ka kb[j] wr rfl S34.out (by omega))
          rw [hm] at DV
          clear hc hm
          generalize kb[j] = x at kc DV
          go_wp2_with (go_at_call 25; ((with_reducible refine DV.out.mono ?_); rintro e w9 ⟨rfl, rfl⟩))
          go_roundw
          case rel => exact ⟨j + 1, by omega, by go_num, by first | rfl | trivial⟩
          case measure => simp [intOf]; omega
        · have D5 := Lib.hid (DC.out _ H4.out)
          clear DA DB D4 S3 S4 S34 KSUB
          go_wp2_with (go_at_call 22; ((with_reducible refine D5.out.mono ?_); rintro e w5 ⟨B, bd, rfl, hs, hb⟩; have S5 := Lib.hid hs; have H5 := Lib.hid (H4.out.trans (hb.mono H4.out.size)); clear hb hs))
          go_loopw [13, 14] (fun v u wr => ∃ j : Nat, j ≤ ps.length ∧ v = .int .i64 (C j) ∧ u = .int .i64 j ∧ wr = w5) (fun _ u _ => ps.length - (intOf u).toNat)
          case atStart => exact ⟨0, Nat.zero_le _, by rw [C0'.out]; rfl, rfl, rfl⟩
          case round => as_aux_lemma =>
            obtain ⟨j, hj, rfl, rfl, rfl⟩ := hrel
            by_cases hlj : j < ps.length
            · have j0 : (0 : Int) ≤ (j : Int) := by omega
              have j1 : (j : Int) < (ps.length : Int) := by omega
              have n5 : IntKind.i64.wrap ((j : Int) + 1) = (j : Int) + 1 := by rw [IntKind.wrap_i64] <;> omega
              obtain ⟨q, hq⟩ : ∃ q, ps[j]? = some q := ⟨ps[j], List.getElem?_eq_getElem _⟩
              obtain ⟨b, o', hB, q0, q1, q2, q3, q4, q5, q6, q7, q8, q9, q10, q11, q12, q13⟩ := sl_pt S5.out hq
              subst hB
              have cn := Lib.hid (Cn'.out j q hq)
              have cb := Cb'.out j
              have n6 : IntKind.i64.wrap ((C j : Int) + 1) = (C j : Int) + 1 := by rw [IntKind.wrap_i64] <;> omega
              clear q1 q2 q3 q4 q5 q6 q7 q8 q10 q11 q12 q13 hq
              cases ha : q.any
              · rw [ha] at q9
                by_cases h13 : q.k = 13
                · have t1 : (q.k != 13) = false := by simpa using h13
                  have e9 : ((C (j + 1) : Nat) : Int) = (C j : Int) := by rw [cn.out, show cnt q = false from by unfold cnt; rw [ha, decide_eq_false (fun z => z h13)]; rfl]; rfl
                  have E9 := Lib.hid e9
                  clear h13 ha e9 cb
                  go_wp2
                  go_roundw
                  case rel => exact ⟨j + 1, by omega, by rw [E9.out], by go_num, by first | rfl | trivial⟩
                  case measure => simp [intOf]; omega
                · have t1 : (q.k != 13) = true := by simpa using h13
                  have e9 : ((C (j + 1) : Nat) : Int) = (C j : Int) + 1 := by rw [cn.out, show cnt q = true from by unfold cnt; rw [ha, decide_eq_true h13]; rfl]; rfl
                  have E9 := Lib.hid e9
                  clear h13 ha e9 cb
                  go_wp2
                  go_roundw
                  case rel => exact ⟨j + 1, by omega, by rw [E9.out], by go_num, by first | rfl | trivial⟩
                  case measure => simp [intOf]; omega
              · rw [ha] at q9
                have e9 : ((C (j + 1) : Nat) : Int) = (C j : Int) := by rw [cn.out, show cnt q = false from by unfold cnt; rw [ha]; rfl]; rfl
                have E9 := Lib.hid e9
                clear ha e9 cb q0
                go_wp2
                go_roundw
                case rel => exact ⟨j + 1, by omega, by rw [E9.out], by go_num, by first | rfl | trivial⟩
                case measure => simp [intOf]; omega
            · obtain rfl : j = ps.length := by omega
              rw [Ce'.out]
              clear Cn' Cb' C0' Ce' S5
              obtain ⟨w6, hw6⟩ : ∃ w6, w6 = wr := ⟨_, rfl⟩
              subst hw6
              obtain ⟨S, hS⟩ : ∃ S, S = sumP turns kk := ⟨_, rfl⟩
              have HS := Lib.hid hS
              rw [← hS] at mb ⊢
              clear hS
              generalize sumP notNear kk = Mn at mb sb ⊢
              go_wp2
              go_loopw [15, 16] (fun v u wr => ∃ j : Nat, j ≤ kk.length ∧ v = .int .i64 (sumP turns (kk.take j)) ∧ u = .int .i64 j ∧ Below w0.heap.size w0 wr) (fun _ u _ => kk.length - (intOf u).toNat)
              case atStart => exact ⟨0, Nat.zero_le _, rfl, rfl, H5.out⟩
              case round => as_aux_lemma =>
                clear H5
                obtain ⟨j, hj, rfl, rfl, hb⟩ := hrel
                have H5 := Lib.hid hb
                clear hb
                by_cases hlj : j < kk.length
                · have j0 : (0 : Int) ≤ (j : Int) := by omega
                  have j1 : (j : Int) < (kk.length : Int) := by omega
                  have i2 : (j : Int) + 1 ≤ (tc : Int) := by omega
                  have i4 : (j : Int) ≤ (j : Int) + 1 := by omega
                  have i5 : (0 : Int) ≤ (j : Int) + 1 := by omega
                  have n5 : IntKind.i64.wrap ((j : Int) + 1) = (j : Int) + 1 := by rw [IntKind.wrap_i64] <;> omega
                  obtain ⟨a, hal⟩ : ∃ a, kk[j]? = some a := ⟨kk[j], List.getElem?_eq_getElem _⟩
                  obtain ⟨p, off, hT, hat⟩ := (CK0.out.below H5.out (Nat.le_refl _)).get hal
                  subst hT
                  obtain ⟨c0, c1, c2, c3, c4, c5, c6, c7, c8, c9, c10, c11, c12⟩ := hat
                  have D7 : Hid (∀ d, Calls Try.prog 22 #[.slice (some ⟨p, off + j * 13, none⟩) 1 d] wr fun e w' => ∃ B d, e = .returned (.slice B (oneP a) d) ∧ Below wr.heap.size wr w') := Lib.hid fun d =>
                    (points_any _ d 1 [a] wr rfl (cls_one (CK0.out.below H5.out (Nat.le_refl _)) hal) (by simp) (fun x hx => by rw [List.mem_singleton.1 hx]; exact FK.out a (List.mem_of_getElem? hal))).mono fun e w' ⟨B, d, h1, _, h3⟩ => ⟨B, d, h1, h3⟩
                  have sn := Lib.hid (sum_next (f := turns) hal)
                  have q1 : oneP a ≤ 3 := points_one_le a
                  have sb2 := sum_bound turns (kk.take j)
                  rw [List.length_take] at sb2
                  clear hal c0 c2 c3 c4 c5 c6 c7 c8 c9 c10 c11 c12
                  generalize sumP turns (kk.take j) = s at sn sb2
                  generalize oneP a = q at sn q1 D7
                  have n6 : IntKind.i64.wrap ((s : Int) + (q : Int)) = (s : Int) + (q : Int) := by rw [IntKind.wrap_i64] <;> omega
                  clear q1 sb2
                  by_cases h17 : a.k = 17
                  · have t1 : (a.k != 17) = false := by simpa using h17
                    have e9 : ((sumP turns (kk.take (j + 1)) : Nat) : Int) = (s : Int) := by rw [sn.out, show turns a = false from decide_eq_false (fun z => z.1 h17)]; simp
                    have E9 := Lib.hid e9
                    clear h17 e9
                    go_wp2
                    go_roundw
                    case rel => exact ⟨j + 1, by omega, by rw [E9.out], by go_num, H5.out⟩
                    case measure => simp [intOf]; omega
                  · have t1 : (a.k != 17) = true := by simpa using h17
                    by_cases h13 : a.k = 13
                    · have t2 : (a.k != 13) = false := by simpa using h13
                      have e9 : ((sumP turns (kk.take (j + 1)) : Nat) : Int) = (s : Int) := by rw [sn.out, show turns a = false from decide_eq_false (fun z => z.2 h13)]; simp
                      have E9 := Lib.hid e9
                      clear h17 h13 e9
                      go_wp2
                      go_roundw
                      case rel => exact ⟨j + 1, by omega, by rw [E9.out], by go_num, H5.out⟩
                      case measure => simp [intOf]; omega
                    · have t2 : (a.k != 13) = true := by simpa using h13
                      have e9 : ((sumP turns (kk.take (j + 1)) : Nat) : Int) = (s : Int) + (q : Int) := by rw [sn.out, show turns a = true from decide_eq_true ⟨h17, h13⟩]; simp
                      have E9 := Lib.hid e9
                      clear h17 h13 e9
                      go_wp2_with (go_at_call 22; ((with_reducible refine (D7.out _).mono ?_); rintro e w8 ⟨B, bd, rfl, hb⟩; have H8 := Lib.hid (H5.out.trans (hb.mono H5.out.size)); clear hb))
                      go_roundw
                      case rel => exact ⟨j + 1, by omega, by rw [E9.out], by go_num, H8.out⟩
                      case measure => simp [intOf]; omega
                · obtain rfl : j = kk.length := by omega
                  rw [List.take_length, ← HS.out]
                  have D9 := Lib.hid (DD.out _ H5.out)
                  have t1 : decide ((S : Int) ≤ (Mn : Int)) = true := decide_eq_true (by omega)
                  have t2 : decide (S ≤ Mn) = true := decide_eq_true mb
                  have HW0 := Lib.hid (HW.out.trans (H5.out.mono HW.out.size))
                  clear mb sb
                  go_wp2_with (go_at_call 10; ((with_reducible refine D9.out.mono ?_); rintro e w9 ⟨rfl, hb⟩; have H9 := Lib.hid (HW0.out.trans (hb.mono HW0.out.size)); clear hb))
                  go_ret
                  exact ⟨rfl, H9.out⟩
theorem few_any (A : Option Addr) (c n : Nat) (l : List Cl) (o : Int) (w : World) (hn : n = l.length) (hl : Cls w A l) (hc : n ≤ c) (hf : ∀ a ∈ l, a.list.length ≤ 9223372036854775807) :
    Calls Try.prog 6 #[.slice A n c, .int .u16 o] w fun e w' => e = .returned (.bool true) ∧ Below w.heap.size w w' := by
  by_cases h : 12 < n
  · exact few_long A c n o w h
  have h12 : n ≤ 12 := by omega
  cases hr : rightB l
  · exact few_wrong A c n l o w hn hl h12 hr
  · exact few_full A c n l o w hn hl hc h12 hf hr
end Go.Proofs.Ythepgdfhdkhhbaa
