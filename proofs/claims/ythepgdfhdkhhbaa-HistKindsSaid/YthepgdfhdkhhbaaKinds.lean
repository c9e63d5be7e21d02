/- HistKinds: the walk. -/
import Derived.Test.YthepgdfhdkhhbaaMem
import Derived.Test.YthepgdfhdkhhbaaShown
namespace Go.Proofs.Ythepgdfhdkhhbaa
open Go.RowKit Aid
set_option maxRecDepth 100000 in
theorem kinds_long (A : Option Addr) (c n : Nat) (w : World) (h : 12 < n) :
    Calls Try.prog 7 #[.slice A n c] w fun e w' => e = .returned (.bool true) ∧ Below w.heap.size w w' := by
  have D1 := Lib.hid (shown_any w)
  have d1 : decide ((12 : Int) < (n : Int)) = true := by simp; omega
  have d2 : decide (12 < n) = true := by simp; omega
  go_enter Try.func7, Try.ntmps7
  go_wp2_with (go_at_call 8; ((with_reducible refine D1.out.mono ?_); rintro e w1 ⟨rfl, hb⟩; have H1 := Lib.hid hb; clear hb))
  go_ret
  exact ⟨rfl, H1.out⟩
set_option maxRecDepth 100000 in
theorem kinds_wrong (A : Option Addr) (c n : Nat) (l : List Cl) (w : World) (hn : n = l.length) (hl : Cls w A l) (h12 : n ≤ 12) (hr : rightB l = false) :
    Calls Try.prog 7 #[.slice A n c] w fun e w' => e = .returned (.bool true) ∧ Below w.heap.size w w' := by
  have D1 := Lib.hid (shown_any w)
  have HR : Hid (∀ W, Below w.heap.size w W → Calls Try.prog 9 #[.slice A n c] W fun e w' => e = .returned (.bool false) ∧ Below W.heap.size W w') := Lib.hid (fun W hW => by have := refRight_any A c n l W hn (hl.below hW (Nat.le_refl _)) (by omega); rw [hr] at this; exact this)
  have d1 : decide ((12 : Int) < (n : Int)) = false := by simp; omega
  have d2 : decide (12 < n) = false := by simp; omega
  clear hn hl hr
  go_enter Try.func7, Try.ntmps7
  go_wp2_with (first
    | (go_at_call 8; ((with_reducible refine D1.out.mono ?_); rintro e w1 ⟨rfl, hb⟩; have H1 := Lib.hid hb; have D2 := Lib.hid (HR.out _ hb); clear hb))
    | (go_at_call 9; ((with_reducible refine D2.out.mono ?_); rintro e w2 ⟨rfl, hb⟩; have H2 := Lib.hid (H1.out.trans (hb.mono H1.out.size)); clear hb)))
  go_ret
  exact ⟨rfl, H2.out⟩
set_option maxHeartbeats 16000000 in
set_option maxRecDepth 100000 in
theorem kinds_full (A : Option Addr) (c n : Nat) (l : List Cl) (w : World) (hn : n = l.length) (hl : Cls w A l) (hc : n ≤ c) (h12 : n ≤ 12) (hr : rightB l = true) (hf : ∀ a ∈ l, a.list.length ≤ 9223372036854775807) :
    Calls Try.prog 7 #[.slice A n c] w fun e w' => e = .returned (.bool true) ∧ Below w.heap.size w w' := by
  have HN := Lib.hid hn
  have HL := Lib.hid hl
  have HF := Lib.hid hf
  have D1 := Lib.hid (shown_any w)
  have HR : Hid (∀ W, Below w.heap.size w W → Calls Try.prog 9 #[.slice A n c] W fun e w' => e = .returned (.bool true) ∧ Below W.heap.size W w') := Lib.hid (fun W hW => by have := refRight_any A c n l W hn (hl.below hW (Nat.le_refl _)) (by omega); rw [hr] at this; exact this)
  have d1 : decide ((12 : Int) < (n : Int)) = false := by simp; omega
  have d2 : decide (12 < n) = false := by simp; omega
  clear hn hl hr hf
  go_enter Try.func7, Try.ntmps7
  go_wp2_with (first
    | (go_at_call 8; ((with_reducible refine D1.out.mono ?_); rintro e w1 ⟨rfl, hb⟩; have H1 := Lib.hid hb; have D2 := Lib.hid (HR.out _ hb); clear hb))
    | (go_at_call 9; ((with_reducible refine D2.out.mono ?_); rintro e w2 ⟨rfl, hb⟩; have H2 := Lib.hid (H1.out.trans (hb.mono H1.out.size)); clear hb)))
  go_loopw [4] (fun v wr => ∃ i : Nat, i ≤ n ∧ v = .int .i64 i ∧ Below w.heap.size w wr) (fun v _ => n - (intOf v).toNat)
  case atStart => exact ⟨0, Nat.zero_le _, rfl, H2.out⟩
  case round =>
    obtain ⟨i, hi, rfl, hb⟩ := hrel
    have HB := Lib.hid hb
    clear hb
    obtain ⟨w0, hw0⟩ : ∃ w0, w0 = wr := ⟨_, rfl⟩
    subst hw0
    by_cases hlt : i < n
    · have i0 : (0 : Int) ≤ (i : Int) := by omega
      have i1 : (i : Int) < (n : Int) := by omega
      have i2 : (i : Int) + 1 ≤ (c : Int) := by omega
      have i4 : (i : Int) ≤ (i : Int) + 1 := by omega
      have i5 : (0 : Int) ≤ (i : Int) + 1 := by omega
      have n3 : IntKind.i64.wrap ((i : Int) + 1) = (i : Int) + 1 := by rw [IntKind.wrap_i64] <;> omega
      obtain ⟨a, hal⟩ : ∃ a, l[i]? = some a := ⟨l[i]'(by rw [← HN.out]; exact hlt), List.getElem?_eq_getElem _⟩
      obtain ⟨p, off, hA, _⟩ := HL.out.get hal
      subst hA
      have AT : Hid (∀ W, Below w.heap.size w W → At W p (off + i * 13) a) := Lib.hid fun W hW => by
        obtain ⟨p', o', hA, h⟩ := (HL.out.below hW (Nat.le_refl _)).get hal
        cases hA; exact h
      have DO : Hid (∀ W, Calls Try.prog 11 #[a.val] W fun e w' => e = .returned (.bool (openB a)) ∧ Below W.heap.size W w') := Lib.hid fun W => open_any a W
      have DI : Hid (∀ W, Calls Try.prog 13 #[a.val] W fun e w' => e = .returned (.bool (idleB a)) ∧ Below W.heap.size W w') := Lib.hid fun W => idle_any a W
      have DP : Hid (∀ W d, Below w.heap.size w W → Calls Try.prog 22 #[.slice (some ⟨p, off + i * 13, none⟩) 1 d] W fun e w' => ∃ B d, e = .returned (.slice B (pointsOf [a]).length d) ∧ Sl w' B (flat (pointsOf [a])) ∧ Below W.heap.size W w') := Lib.hid fun W d hW =>
        points_any _ d 1 [a] W rfl (cls_one (HL.out.below hW (Nat.le_refl _)) hal) (by simp) (fun x hx => by rw [List.mem_singleton.1 hx]; exact HF.out a (List.mem_of_getElem? hal))
      have PL := Lib.hid (points_one_le a)
      have PO := Lib.hid (points_one a)
      clear hal
      cases ho : openB a
      · cases hi' : idleB a
        · have PM := Lib.hid (show (pointsOf [a]).any (·.must) = true by rw [PO.out]; exact must_plain _ ho hi')
          have t1 : decide (a.to < 0) = false := decide_eq_false (open_to ho)
          rw [ho] at DO
          rw [hi'] at DI
          clear ho hi' PO
          generalize pointsOf [a] = ps at DP PL PM
          unfold Cl.val at DO DI
          obtain ⟨a0, a1, a2, a3, a4, a5, a6, a7, a8, a9, a10, a11, a12⟩ := AT.out w0 HB.out
          go_wp2_with (first
            | (go_at_call 11; ((with_reducible refine (DO.out _).mono ?_); rintro e w3 ⟨rfl, hb⟩; have H3 := Lib.hid (HB.out.trans (hb.mono HB.out.size)); clear a0 a1 a2 a3 a4 a5 a6 a7 a8 a9 a10 a11 a12; obtain ⟨a0, a1, a2, a3, a4, a5, a6, a7, a8, a9, a10, a11, a12⟩ := AT.out w3 H3.out; clear hb))
            | (go_at_call 13; ((with_reducible refine (DI.out _).mono ?_); rintro e w4 ⟨rfl, hb⟩; have H4 := Lib.hid (H3.out.trans (hb.mono H3.out.size)); have D5 := Lib.hid (fun d => DP.out _ d H4.out); clear a0 a1 a2 a3 a4 a5 a6 a7 a8 a9 a10 a11 a12; clear hb))
            | (go_at_call 22; ((with_reducible refine (D5.out _).mono ?_); rintro e w5 ⟨B, d, rfl, hs, hb⟩; have HS := Lib.hid hs; have H5 := Lib.hid (H4.out.trans (hb.mono H4.out.size)); clear hs hb)))
          obtain ⟨m, hm⟩ : ∃ m, m = ps.length := ⟨_, rfl⟩
          have HM := Lib.hid hm
          have pl := PL.out
          rw [← hm] at pl ⊢
          clear hm
          go_loopw [8, 9] (fun v u wr => ∃ k : Nat, k ≤ m ∧ v = .bool ((ps.take k).any (·.must)) ∧ u = .int .i64 k ∧ wr = w5) (fun _ u _ => m - (intOf u).toNat)
          case atStart => exact ⟨0, Nat.zero_le _, rfl, rfl, rfl⟩
          case round =>
            obtain ⟨k, hk, rfl, rfl, rfl⟩ := hrel
            by_cases hlk : k < m
            · have k0 : (0 : Int) ≤ (k : Int) := by omega
              have k1 : (k : Int) < (m : Int) := by omega
              have n5 : IntKind.i64.wrap ((k : Int) + 1) = (k : Int) + 1 := by rw [IntKind.wrap_i64] <;> omega
              obtain ⟨q, hq⟩ : ∃ q, ps[k]? = some q := ⟨ps[k]'(by rw [← HM.out]; exact hlk), List.getElem?_eq_getElem _⟩
              obtain ⟨b, o, rfl, q0, q1, q2, q3, q4, q5, q6, q7, q8, q9, q10, q11, q12, q13⟩ := sl_pt HS.out hq
              have HQ := Lib.hid (any_next hq)
              clear hq q0 q1 q2 q3 q4 q5 q6 q7 q8 q9 q10 q11 q12
              cases hz : (ps.take k).any (·.must)
              · rw [hz] at HQ
                clear hz
                go_wp2
                go_roundw
                case rel => exact ⟨k + 1, by omega, by rw [HQ.out]; rfl, by go_num, by first | rfl | trivial⟩
                case measure => simp [intOf]; omega
              · rw [hz] at HQ
                clear hz q13
                go_wp2
                go_roundw
                case rel => exact ⟨k + 1, by omega, by rw [HQ.out]; rfl, by go_num, by first | rfl | trivial⟩
                case measure => simp [intOf]; omega
            · obtain rfl : k = m := by omega
              have hz : (ps.take k).any (·.must) = true := by rw [HM.out, List.take_length]; exact PM.out
              rw [hz]
              clear hz
              obtain ⟨a0, a1, a2, a3, a4, a5, a6, a7, a8, a9, a10, a11, a12⟩ := AT.out wr H5.out
              go_wp2
              go_roundw
              case rel => exact ⟨i + 1, by omega, by go_num, H5.out⟩
              case measure => simp [intOf]; omega
        · have PM := Lib.hid (show (pointsOf [a]).any (·.must) = false by rw [PO.out]; exact must_idle _ hi')
          have t1 : decide (a.to < 0) = false := decide_eq_false (idle_to hi')
          rw [ho] at DO
          rw [hi'] at DI
          clear ho hi' PO
          generalize pointsOf [a] = ps at DP PL PM
          unfold Cl.val at DO DI
          obtain ⟨a0, a1, a2, a3, a4, a5, a6, a7, a8, a9, a10, a11, a12⟩ := AT.out w0 HB.out
          go_wp2_with (first
            | (go_at_call 11; ((with_reducible refine (DO.out _).mono ?_); rintro e w3 ⟨rfl, hb⟩; have H3 := Lib.hid (HB.out.trans (hb.mono HB.out.size)); clear a0 a1 a2 a3 a4 a5 a6 a7 a8 a9 a10 a11 a12; obtain ⟨a0, a1, a2, a3, a4, a5, a6, a7, a8, a9, a10, a11, a12⟩ := AT.out w3 H3.out; clear hb))
            | (go_at_call 13; ((with_reducible refine (DI.out _).mono ?_); rintro e w4 ⟨rfl, hb⟩; have H4 := Lib.hid (H3.out.trans (hb.mono H3.out.size)); have D5 := Lib.hid (fun d => DP.out _ d H4.out); clear a0 a1 a2 a3 a4 a5 a6 a7 a8 a9 a10 a11 a12; clear hb))
            | (go_at_call 22; ((with_reducible refine (D5.out _).mono ?_); rintro e w5 ⟨B, d, rfl, hs, hb⟩; have HS := Lib.hid hs; have H5 := Lib.hid (H4.out.trans (hb.mono H4.out.size)); clear hs hb)))
          obtain ⟨m, hm⟩ : ∃ m, m = ps.length := ⟨_, rfl⟩
          have HM := Lib.hid hm
          have pl := PL.out
          rw [← hm] at pl ⊢
          clear hm
          go_loopw [8, 9] (fun v u wr => ∃ k : Nat, k ≤ m ∧ v = .bool ((ps.take k).any (·.must)) ∧ u = .int .i64 k ∧ wr = w5) (fun _ u _ => m - (intOf u).toNat)
          case atStart => exact ⟨0, Nat.zero_le _, rfl, rfl, rfl⟩
          case round =>
            obtain ⟨k, hk, rfl, rfl, rfl⟩ := hrel
            by_cases hlk : k < m
            · have k0 : (0 : Int) ≤ (k : Int) := by omega
              have k1 : (k : Int) < (m : Int) := by omega
              have n5 : IntKind.i64.wrap ((k : Int) + 1) = (k : Int) + 1 := by rw [IntKind.wrap_i64] <;> omega
              obtain ⟨q, hq⟩ : ∃ q, ps[k]? = some q := ⟨ps[k]'(by rw [← HM.out]; exact hlk), List.getElem?_eq_getElem _⟩
              obtain ⟨b, o, rfl, q0, q1, q2, q3, q4, q5, q6, q7, q8, q9, q10, q11, q12, q13⟩ := sl_pt HS.out hq
              have HQ := Lib.hid (any_next hq)
              clear hq q0 q1 q2 q3 q4 q5 q6 q7 q8 q9 q10 q11 q12
              cases hz : (ps.take k).any (·.must)
              · rw [hz] at HQ
                clear hz
                go_wp2
                go_roundw
                case rel => exact ⟨k + 1, by omega, by rw [HQ.out]; rfl, by go_num, by first | rfl | trivial⟩
                case measure => simp [intOf]; omega
              · rw [hz] at HQ
                clear hz q13
                go_wp2
                go_roundw
                case rel => exact ⟨k + 1, by omega, by rw [HQ.out]; rfl, by go_num, by first | rfl | trivial⟩
                case measure => simp [intOf]; omega
            · obtain rfl : k = m := by omega
              have hz : (ps.take k).any (·.must) = false := by rw [HM.out, List.take_length]; exact PM.out
              rw [hz]
              clear hz
              obtain ⟨a0, a1, a2, a3, a4, a5, a6, a7, a8, a9, a10, a11, a12⟩ := AT.out wr H5.out
              go_wp2
              go_roundw
              case rel => exact ⟨i + 1, by omega, by go_num, H5.out⟩
              case measure => simp [intOf]; omega
      · have hi' : idleB a = false := Bool.eq_false_iff.2 (fun h => open_idle ho h)
        by_cases htn : a.to < 0
        · have PM := Lib.hid (show (pointsOf [a]).any (·.must) = false by rw [PO.out]; exact must_open _ ho)
          have t1 : decide (a.to < 0) = true := decide_eq_true htn
          rw [ho] at DO
          rw [hi'] at DI
          clear ho hi' PO htn
          generalize pointsOf [a] = ps at DP PL PM
          unfold Cl.val at DO DI
          obtain ⟨a0, a1, a2, a3, a4, a5, a6, a7, a8, a9, a10, a11, a12⟩ := AT.out w0 HB.out
          go_wp2_with (first
            | (go_at_call 11; ((with_reducible refine (DO.out _).mono ?_); rintro e w3 ⟨rfl, hb⟩; have H3 := Lib.hid (HB.out.trans (hb.mono HB.out.size)); clear a0 a1 a2 a3 a4 a5 a6 a7 a8 a9 a10 a11 a12; obtain ⟨a0, a1, a2, a3, a4, a5, a6, a7, a8, a9, a10, a11, a12⟩ := AT.out w3 H3.out; clear hb))
            | (go_at_call 13; ((with_reducible refine (DI.out _).mono ?_); rintro e w4 ⟨rfl, hb⟩; have H4 := Lib.hid (H3.out.trans (hb.mono H3.out.size)); have D5 := Lib.hid (fun d => DP.out _ d H4.out); clear a0 a1 a2 a3 a4 a5 a6 a7 a8 a9 a10 a11 a12; clear hb))
            | (go_at_call 22; ((with_reducible refine (D5.out _).mono ?_); rintro e w5 ⟨B, d, rfl, hs, hb⟩; have HS := Lib.hid hs; have H5 := Lib.hid (H4.out.trans (hb.mono H4.out.size)); clear hs hb)))
          obtain ⟨m, hm⟩ : ∃ m, m = ps.length := ⟨_, rfl⟩
          have HM := Lib.hid hm
          have pl := PL.out
          rw [← hm] at pl ⊢
          clear hm
          go_loopw [8, 9] (fun v u wr => ∃ k : Nat, k ≤ m ∧ v = .bool ((ps.take k).any (·.must)) ∧ u = .int .i64 k ∧ wr = w5) (fun _ u _ => m - (intOf u).toNat)
          case atStart => exact ⟨0, Nat.zero_le _, rfl, rfl, rfl⟩
          case round =>
            obtain ⟨k, hk, rfl, rfl, rfl⟩ := hrel
            by_cases hlk : k < m
            · have k0 : (0 : Int) ≤ (k : Int) := by omega
              have k1 : (k : Int) < (m : Int) := by omega
              have n5 : IntKind.i64.wrap ((k : Int) + 1) = (k : Int) + 1 := by rw [IntKind.wrap_i64] <;> omega
              obtain ⟨q, hq⟩ : ∃ q, ps[k]? = some q := ⟨ps[k]'(by rw [← HM.out]; exact hlk), List.getElem?_eq_getElem _⟩
              obtain ⟨b, o, rfl, q0, q1, q2, q3, q4, q5, q6, q7, q8, q9, q10, q11, q12, q13⟩ := sl_pt HS.out hq
              have HQ := Lib.hid (any_next hq)
              clear hq q0 q1 q2 q3 q4 q5 q6 q7 q8 q9 q10 q11 q12
              cases hz : (ps.take k).any (·.must)
              · rw [hz] at HQ
                clear hz
                go_wp2
                go_roundw
                case rel => exact ⟨k + 1, by omega, by rw [HQ.out]; rfl, by go_num, by first | rfl | trivial⟩
                case measure => simp [intOf]; omega
              · rw [hz] at HQ
                clear hz q13
                go_wp2
                go_roundw
                case rel => exact ⟨k + 1, by omega, by rw [HQ.out]; rfl, by go_num, by first | rfl | trivial⟩
                case measure => simp [intOf]; omega
            · obtain rfl : k = m := by omega
              have hz : (ps.take k).any (·.must) = false := by rw [HM.out, List.take_length]; exact PM.out
              rw [hz]
              clear hz
              obtain ⟨a0, a1, a2, a3, a4, a5, a6, a7, a8, a9, a10, a11, a12⟩ := AT.out wr H5.out
              go_wp2
              go_roundw
              case rel => exact ⟨i + 1, by omega, by go_num, H5.out⟩
              case measure => simp [intOf]; omega
        · have PM := Lib.hid (show (pointsOf [a]).any (·.must) = false by rw [PO.out]; exact must_open _ ho)
          have t1 : decide (a.to < 0) = false := decide_eq_false htn
          rw [ho] at DO
          rw [hi'] at DI
          clear ho hi' PO htn
          generalize pointsOf [a] = ps at DP PL PM
          unfold Cl.val at DO DI
          obtain ⟨a0, a1, a2, a3, a4, a5, a6, a7, a8, a9, a10, a11, a12⟩ := AT.out w0 HB.out
          go_wp2_with (first
            | (go_at_call 11; ((with_reducible refine (DO.out _).mono ?_); rintro e w3 ⟨rfl, hb⟩; have H3 := Lib.hid (HB.out.trans (hb.mono HB.out.size)); clear a0 a1 a2 a3 a4 a5 a6 a7 a8 a9 a10 a11 a12; obtain ⟨a0, a1, a2, a3, a4, a5, a6, a7, a8, a9, a10, a11, a12⟩ := AT.out w3 H3.out; clear hb))
            | (go_at_call 13; ((with_reducible refine (DI.out _).mono ?_); rintro e w4 ⟨rfl, hb⟩; have H4 := Lib.hid (H3.out.trans (hb.mono H3.out.size)); have D5 := Lib.hid (fun d => DP.out _ d H4.out); clear a0 a1 a2 a3 a4 a5 a6 a7 a8 a9 a10 a11 a12; clear hb))
            | (go_at_call 22; ((with_reducible refine (D5.out _).mono ?_); rintro e w5 ⟨B, d, rfl, hs, hb⟩; have HS := Lib.hid hs; have H5 := Lib.hid (H4.out.trans (hb.mono H4.out.size)); clear hs hb)))
          obtain ⟨m, hm⟩ : ∃ m, m = ps.length := ⟨_, rfl⟩
          have HM := Lib.hid hm
          have pl := PL.out
          rw [← hm] at pl ⊢
          clear hm
          go_loopw [8, 9] (fun v u wr => ∃ k : Nat, k ≤ m ∧ v = .bool ((ps.take k).any (·.must)) ∧ u = .int .i64 k ∧ wr = w5) (fun _ u _ => m - (intOf u).toNat)
          case atStart => exact ⟨0, Nat.zero_le _, rfl, rfl, rfl⟩
          case round =>
            obtain ⟨k, hk, rfl, rfl, rfl⟩ := hrel
            by_cases hlk : k < m
            · have k0 : (0 : Int) ≤ (k : Int) := by omega
              have k1 : (k : Int) < (m : Int) := by omega
              have n5 : IntKind.i64.wrap ((k : Int) + 1) = (k : Int) + 1 := by rw [IntKind.wrap_i64] <;> omega
              obtain ⟨q, hq⟩ : ∃ q, ps[k]? = some q := ⟨ps[k]'(by rw [← HM.out]; exact hlk), List.getElem?_eq_getElem _⟩
              obtain ⟨b, o, rfl, q0, q1, q2, q3, q4, q5, q6, q7, q8, q9, q10, q11, q12, q13⟩ := sl_pt HS.out hq
              have HQ := Lib.hid (any_next hq)
              clear hq q0 q1 q2 q3 q4 q5 q6 q7 q8 q9 q10 q11 q12
              cases hz : (ps.take k).any (·.must)
              · rw [hz] at HQ
                clear hz
                go_wp2
                go_roundw
                case rel => exact ⟨k + 1, by omega, by rw [HQ.out]; rfl, by go_num, by first | rfl | trivial⟩
                case measure => simp [intOf]; omega
              · rw [hz] at HQ
                clear hz q13
                go_wp2
                go_roundw
                case rel => exact ⟨k + 1, by omega, by rw [HQ.out]; rfl, by go_num, by first | rfl | trivial⟩
                case measure => simp [intOf]; omega
            · obtain rfl : k = m := by omega
              have hz : (ps.take k).any (·.must) = false := by rw [HM.out, List.take_length]; exact PM.out
              rw [hz]
              clear hz
              obtain ⟨a0, a1, a2, a3, a4, a5, a6, a7, a8, a9, a10, a11, a12⟩ := AT.out wr H5.out
              go_wp2
              go_roundw
              case rel => exact ⟨i + 1, by omega, by go_num, H5.out⟩
              case measure => simp [intOf]; omega
    · go_wp2
      go_ret
      exact ⟨rfl, HB.out⟩
theorem kinds_any (A : Option Addr) (c n : Nat) (l : List Cl) (w : World) (hn : n = l.length) (hl : Cls w A l) (hc : n ≤ c) (hf : ∀ a ∈ l, a.list.length ≤ 9223372036854775807) :
    Calls Try.prog 7 #[.slice A n c] w fun e w' => e = .returned (.bool true) ∧ Below w.heap.size w w' := by
  by_cases h : 12 < n
  · exact kinds_long A c n w h
  have h12 : n ≤ 12 := by omega
  cases hr : rightB l
  · exact kinds_wrong A c n l w hn hl h12 hr
  · exact kinds_full A c n l w hn hl hc h12 hr hf
end Go.Proofs.Ythepgdfhdkhhbaa
