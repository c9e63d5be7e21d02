/- HistOrder: plain law and walk. -/
import Derived.Test.YthepgdfhdkhhbaaShown
import Derived.StillTailTactics
namespace Go.Proofs.Ythepgdfhdkhhbaa
open Go.RowKit Aid

theorem bef {a b : Cl} : beforeB a b = true ↔ a.era < b.era ∨ (a.era = b.era ∧ 0 ≤ a.to ∧ a.to < b.fr) := decide_eq_true_iff
theorem fit_t {a b : Cl} (h : fitsB a b = true) : a.fr < b.fr ∧ a.era ≤ b.era ∧ (a.era < b.era → a.to < b.fr) ∧ (a.era = b.era → a.me ≠ b.me ∨ (0 ≤ a.to ∧ a.to < b.fr)) := of_decide_eq_true h
theorem may_t {a : Cl} (h : mayB a = true) : 11 ≤ a.k ∧ a.k ≤ 17 ∧ 0 ≤ a.me ∧ a.me < 64 ∧ 0 ≤ a.era ∧ 0 ≤ a.fr ∧ (a.to < 0 ∨ a.fr < a.to) := of_decide_eq_true h
theorem bef_no {a b : Cl} (h : ¬ (a.era < b.era ∨ (a.era = b.era ∧ 0 ≤ a.to ∧ a.to < b.fr))) : beforeB a b = false := decide_eq_false h
section
variable {l : List Cl} (hr : RightP l) {i k n : Nat} {a b c : Cl}
include hr
theorem ord_back (ha : l[i]? = some a) (hb : l[k]? = some b) (hik : i < k) : beforeB b a = false := by
  have h1 := fit_t ((hr k b hb).2 i a hik ha)
  have h2 := may_t (hr k b hb).1
  exact bef_no (by omega)
theorem ord_self (ha : l[i]? = some a) : beforeB a a = false := by
  have h2 := may_t (hr i a ha).1
  exact bef_no (by omega)
theorem ord_me (ha : l[i]? = some a) (hb : l[k]? = some b) (hik : i < k) (h : beforeB a b = false) : a.me ≠ b.me := by
  have h1 := fit_t ((hr k b hb).2 i a hik ha)
  intro he
  have : ¬ (a.era < b.era ∨ (a.era = b.era ∧ 0 ≤ a.to ∧ a.to < b.fr)) := of_decide_eq_false h
  omega
omit hr in
theorem ord_trans (hb : mayB b = true) (h1 : beforeB a b = true) (h2 : beforeB b c = true) : beforeB a c = true := by
  have h3 := bef.1 h1
  have h4 := bef.1 h2
  have h5 := may_t hb
  exact bef.2 (by omega)
end
set_option maxHeartbeats 16000000 in
set_option maxRecDepth 100000 in
theorem order_full (A : Option Addr) (c n : Nat) (l : List Cl) (w : World) (hn : n = l.length) (hl : Cls w A l) (h12 : n ≤ 12) (hr : rightB l = true) :
    Calls Try.prog 4 #[.slice A n c] w fun e w' => e = .returned (.bool true) ∧ Below w.heap.size w w' := by
  have HN := Lib.hid hn
  have HL := Lib.hid hl
  have D1 := Lib.hid (shown_any w)
  have HR : Hid (∀ W, Below w.heap.size w W → Calls Try.prog 9 #[.slice A n c] W fun e w' => e = .returned (.bool true) ∧ Below W.heap.size W w') := Lib.hid (fun W hW => by have := refRight_any A c n l W hn (hl.below hW (Nat.le_refl _)) (by omega); rw [hr] at this; exact this)
  have RP := Lib.hid (right_of hr)
  have d1 : decide ((12 : Int) < (n : Int)) = false := by simp; omega
  have d2 : decide (12 < n) = false := by simp; omega
  clear hn hl hr
  go_enter Try.func4, Try.ntmps4
  go_wp2_with (first
    | (go_at_call 8; ((with_reducible refine D1.out.mono ?_); rintro e w1 ⟨rfl, hb⟩; have H1 := Lib.hid hb; have D2 := Lib.hid (HR.out _ hb); clear hb))
    | (go_at_call 9; ((with_reducible refine D2.out.mono ?_); rintro e w2 ⟨rfl, hb⟩; have H2 := Lib.hid (H1.out.trans (hb.mono H1.out.size)); clear hb)))
  go_loopw [4] (fun v wr => ∃ i : Nat, i ≤ n ∧ v = .int .i64 i ∧ Below w.heap.size w wr) (fun v _ => n - (intOf v).toNat)
  case atStart => exact ⟨0, Nat.zero_le _, rfl, H2.out⟩
  case round =>
    obtain ⟨i, hi, rfl, hb⟩ := hrel
    have HB := Lib.hid hb
    clear hb
    by_cases hlt : i < n
    · have i0 : (0 : Int) ≤ (i : Int) := by omega
      have i1 : (i : Int) < (n : Int) := by omega
      have n3 : IntKind.i64.wrap ((i : Int) + 1) = (i : Int) + 1 := by rw [IntKind.wrap_i64] <;> omega
      obtain ⟨a, hal⟩ : ∃ a, l[i]? = some a := ⟨l[i]'(by rw [← HN.out]; exact hlt), List.getElem?_eq_getElem _⟩
      have HAL := Lib.hid hal
      clear hal
      go_wp2
      go_loopw [5] (fun v wr => ∃ k : Nat, k ≤ n ∧ v = .int .i64 k ∧ Below w.heap.size w wr) (fun v _ => n - (intOf v).toNat)
      case atStart => exact ⟨0, Nat.zero_le _, rfl, HB.out⟩
      case round =>
        obtain ⟨k, hk, rfl, hb2⟩ := hrel
        have HC := Lib.hid hb2
        clear hb2
        by_cases hlk : k < n
        · have k0 : (0 : Int) ≤ (k : Int) := by omega
          have k1 : (k : Int) < (n : Int) := by omega
          have n4 : IntKind.i64.wrap ((k : Int) + 1) = (k : Int) + 1 := by rw [IntKind.wrap_i64] <;> omega
          obtain ⟨b, hbl⟩ : ∃ b, l[k]? = some b := ⟨l[k]'(by rw [← HN.out]; exact hlk), List.getElem?_eq_getElem _⟩
          have HBL := Lib.hid hbl
          obtain ⟨p, off, hA, _⟩ := HL.out.get hbl
          subst hA
          have AT : Hid (∀ W, Below w.heap.size w W → ∀ j x, l[j]? = some x → At W p (off + j * 13) x) := Lib.hid fun W hW j x hx => by
            obtain ⟨p', o', hA, h⟩ := (HL.out.below hW (Nat.le_refl _)).get hx
            cases hA; exact h
          clear hbl
          rcases Nat.lt_trichotomy i k with hik | hik | hik
          · have q2 := ord_back RP.out HAL.out HBL.out hik
            cases q1 : beforeB a b
            · have hme := ord_me RP.out HAL.out HBL.out hik q1
              have f0 : (a.me == b.me) = false := by simpa using hme
              have f5 : ¬ a.me = b.me := hme
              have f1 : ((i : Int) == (k : Int)) = false := by simp; omega
              have f2 : decide ((i : Int) < (k : Int)) = true := by simp; omega
              have f3 : (i == k) = false := by simp; omega
              have f4 : decide (i < k) = true := by simp; omega
              clear hme hik
              have DA : Hid (∀ W, Calls Try.prog 15 #[a.val, b.val] W fun e w' => e = .returned (.bool false) ∧ Below W.heap.size W w') := Lib.hid fun W => by have := before_any a b W; rw [q1] at this; exact this
              have DB : Hid (∀ W, Calls Try.prog 15 #[b.val, a.val] W fun e w' => e = .returned (.bool false) ∧ Below W.heap.size W w') := Lib.hid fun W => by have := before_any b a W; rw [q2] at this; exact this
              clear q1 q2
              unfold Cl.val at DA DB
              obtain ⟨a0, a1, a2, a3, a4, a5, a6, a7, a8, a9, a10, a11, a12⟩ := AT.out wr HC.out i a HAL.out
              obtain ⟨b0, b1, b2, b3, b4, b5, b6, b7, b8, b9, b10, b11, b12⟩ := AT.out wr HC.out k b HBL.out
              go_wp2
              go_still_tail 8, (by kernel_rfl)
              change wpList _ _ _ _ _ wr.drew
              have X1 := Lib.hid HC.out.drew
              clear a0 a1 a2 a3 a4 a5 a6 a7 a8 a9 a10 a11 a12 b0 b1 b2 b3 b4 b5 b6 b7 b8 b9 b10 b11 b12
              generalize wr.drew = wd at X1 ⊢
              go_upto_region 11 with (go_at_call 15; ((with_reducible refine (DA.out _).mono ?_); rintro e w3 ⟨rfl, hb⟩; have X2 := Lib.hid (X1.out.trans (hb.mono X1.out.size)); obtain ⟨a0, a1, a2, a3, a4, a5, a6, a7, a8, a9, a10, a11, a12⟩ := AT.out w3 X2.out i a HAL.out; obtain ⟨b0, b1, b2, b3, b4, b5, b6, b7, b8, b9, b10, b11, b12⟩ := AT.out w3 X2.out k b HBL.out; clear hb))
              go_still_tail 8, (by kernel_rfl)
              change wpList _ _ _ _ _ w3.drew
              have X3 := Lib.hid X2.out.drew
              clear a0 a1 a2 a3 a4 a5 a6 a7 a8 a9 a10 a11 a12 b0 b1 b2 b3 b4 b5 b6 b7 b8 b9 b10 b11 b12
              generalize w3.drew = wd2 at X3 ⊢
              go_upto_region 12 with (go_at_call 15; ((with_reducible refine (DB.out _).mono ?_); rintro e w4 ⟨rfl, hb⟩; have X4 := Lib.hid (X3.out.trans (hb.mono X3.out.size)); obtain ⟨a0, a1, a2, a3, a4, a5, a6, a7, a8, a9, a10, a11, a12⟩ := AT.out w4 X4.out i a HAL.out; obtain ⟨b0, b1, b2, b3, b4, b5, b6, b7, b8, b9, b10, b11, b12⟩ := AT.out w4 X4.out k b HBL.out; clear hb))
              go_quiet (fail)
              clear a0 a1 a2 a3 a4 a5 a6 a7 a8 a9 a10 a11 a12 b0 b1 b2 b3 b4 b5 b6 b7 b8 b9 b10 b11 b12
              go_wp2
              go_loopw [8] (fun v wr => ∃ j : Nat, j ≤ n ∧ v = .int .i64 j ∧ Below w.heap.size w wr) (fun v _ => n - (intOf v).toNat)
              case atStart => exact ⟨0, Nat.zero_le _, rfl, below_drewN X4.out _⟩
              case round =>
                obtain ⟨j, hj, rfl, hb3⟩ := hrel
                have HE := Lib.hid hb3
                clear hb3
                by_cases hlj : j < n
                · have j0 : (0 : Int) ≤ (j : Int) := by omega
                  have j1 : (j : Int) < (n : Int) := by omega
                  have n5 : IntKind.i64.wrap ((j : Int) + 1) = (j : Int) + 1 := by rw [IntKind.wrap_i64] <;> omega
                  go_wp2
                  go_quiet (fail)
                  go_wp2
                  first
                    | (refine ⟨⟨j + 1, by omega, by go_num, below_drewN HE.out _⟩, by simp [intOf]; omega⟩)
                    | (go_roundw
                       case rel => exact ⟨j + 1, by omega, by go_num, below_drewN HE.out _⟩
                       case measure => simp [intOf]; omega)
                · go_wp2
                  first
                    | (refine ⟨⟨k + 1, by omega, by go_num, HE.out⟩, by simp [intOf]; omega⟩)
                    | (go_roundw
                       case rel => exact ⟨k + 1, by omega, by go_num, HE.out⟩
                       case measure => simp [intOf]; omega)
            · have f1 : ((i : Int) == (k : Int)) = false := by simp; omega
              have f2 : decide ((i : Int) < (k : Int)) = true := by simp; omega
              have f3 : (i == k) = false := by simp; omega
              have f4 : decide (i < k) = true := by simp; omega
              have HQ1 := Lib.hid q1
              clear hik
              have DA : Hid (∀ W, Calls Try.prog 15 #[a.val, b.val] W fun e w' => e = .returned (.bool true) ∧ Below W.heap.size W w') := Lib.hid fun W => by have := before_any a b W; rw [q1] at this; exact this
              have DB : Hid (∀ W, Calls Try.prog 15 #[b.val, a.val] W fun e w' => e = .returned (.bool false) ∧ Below W.heap.size W w') := Lib.hid fun W => by have := before_any b a W; rw [q2] at this; exact this
              clear q1 q2
              unfold Cl.val at DA DB
              obtain ⟨a0, a1, a2, a3, a4, a5, a6, a7, a8, a9, a10, a11, a12⟩ := AT.out wr HC.out i a HAL.out
              obtain ⟨b0, b1, b2, b3, b4, b5, b6, b7, b8, b9, b10, b11, b12⟩ := AT.out wr HC.out k b HBL.out
              go_wp2
              go_still_tail 8, (by kernel_rfl)
              change wpList _ _ _ _ _ wr.drew
              have X1 := Lib.hid HC.out.drew
              clear a0 a1 a2 a3 a4 a5 a6 a7 a8 a9 a10 a11 a12 b0 b1 b2 b3 b4 b5 b6 b7 b8 b9 b10 b11 b12
              generalize wr.drew = wd at X1 ⊢
              go_upto_region 11 with (go_at_call 15; ((with_reducible refine (DA.out _).mono ?_); rintro e w3 ⟨rfl, hb⟩; have X2 := Lib.hid (X1.out.trans (hb.mono X1.out.size)); obtain ⟨a0, a1, a2, a3, a4, a5, a6, a7, a8, a9, a10, a11, a12⟩ := AT.out w3 X2.out i a HAL.out; obtain ⟨b0, b1, b2, b3, b4, b5, b6, b7, b8, b9, b10, b11, b12⟩ := AT.out w3 X2.out k b HBL.out; clear hb))
              go_still_tail 8, (by kernel_rfl)
              change wpList _ _ _ _ _ w3.drew
              have X3 := Lib.hid X2.out.drew
              clear a0 a1 a2 a3 a4 a5 a6 a7 a8 a9 a10 a11 a12 b0 b1 b2 b3 b4 b5 b6 b7 b8 b9 b10 b11 b12
              generalize w3.drew = wd2 at X3 ⊢
              go_upto_region 12 with (go_at_call 15; ((with_reducible refine (DB.out _).mono ?_); rintro e w4 ⟨rfl, hb⟩; have X4 := Lib.hid (X3.out.trans (hb.mono X3.out.size)); obtain ⟨a0, a1, a2, a3, a4, a5, a6, a7, a8, a9, a10, a11, a12⟩ := AT.out w4 X4.out i a HAL.out; obtain ⟨b0, b1, b2, b3, b4, b5, b6, b7, b8, b9, b10, b11, b12⟩ := AT.out w4 X4.out k b HBL.out; clear hb))
              go_quiet (fail)
              clear a0 a1 a2 a3 a4 a5 a6 a7 a8 a9 a10 a11 a12 b0 b1 b2 b3 b4 b5 b6 b7 b8 b9 b10 b11 b12
              go_wp2
              go_loopw [8] (fun v wr => ∃ j : Nat, j ≤ n ∧ v = .int .i64 j ∧ Below w.heap.size w wr) (fun v _ => n - (intOf v).toNat)
              case atStart => exact ⟨0, Nat.zero_le _, rfl, below_drewN X4.out _⟩
              case round =>
                obtain ⟨j, hj, rfl, hb3⟩ := hrel
                have HE := Lib.hid hb3
                clear hb3
                by_cases hlj : j < n
                · have j0 : (0 : Int) ≤ (j : Int) := by omega
                  have j1 : (j : Int) < (n : Int) := by omega
                  have n5 : IntKind.i64.wrap ((j : Int) + 1) = (j : Int) + 1 := by rw [IntKind.wrap_i64] <;> omega
                  obtain ⟨x, hxl⟩ : ∃ x, l[j]? = some x := ⟨l[j]'(by rw [← HN.out]; exact hlj), List.getElem?_eq_getElem _⟩
                  have HXL := Lib.hid hxl
                  clear hxl
                  have DR := Lib.hid HE.out.drew
                  have KS : Hid (∀ W, Below w.heap.size w W → W.cell? ⟨p, off + k * 13, none⟩ = some (.int .i64 b.me) ∧ W.cell? ⟨p, off + k * 13 + 1, none⟩ = some (.int .i64 b.k) ∧ W.cell? ⟨p, off + k * 13 + 2, none⟩ = some (.int .i64 b.u) ∧ W.cell? ⟨p, off + k * 13 + 3, none⟩ = some (.int .i64 b.v) ∧ W.cell? ⟨p, off + k * 13 + 4, none⟩ = some (.int .u64 b.x) ∧ W.cell? ⟨p, off + k * 13 + 5, none⟩ = some (.int .i64 b.era) ∧ W.cell? ⟨p, off + k * 13 + 6, none⟩ = some (.int .i64 b.fr) ∧ W.cell? ⟨p, off + k * 13 + 7, none⟩ = some (.int .i64 b.to) ∧ W.cell? ⟨p, off + k * 13 + 8, none⟩ = some (.int .i64 b.err) ∧ W.cell? ⟨p, off + k * 13 + 9, none⟩ = some (.bool b.is) ∧ W.cell? ⟨p, off + k * 13 + 10, none⟩ = some (.int .i64 b.n) ∧ W.cell? ⟨p, off + k * 13 + 11, none⟩ = some (.int .u64 b.w) ∧ W.cell? ⟨p, off + k * 13 + 12, none⟩ = some (.slice b.A b.list.length b.cap) ∧ W.cell? ⟨p, off + j * 13, none⟩ = some (.int .i64 x.me) ∧ W.cell? ⟨p, off + j * 13 + 1, none⟩ = some (.int .i64 x.k) ∧ W.cell? ⟨p, off + j * 13 + 2, none⟩ = some (.int .i64 x.u) ∧ W.cell? ⟨p, off + j * 13 + 3, none⟩ = some (.int .i64 x.v) ∧ W.cell? ⟨p, off + j * 13 + 4, none⟩ = some (.int .u64 x.x) ∧ W.cell? ⟨p, off + j * 13 + 5, none⟩ = some (.int .i64 x.era) ∧ W.cell? ⟨p, off + j * 13 + 6, none⟩ = some (.int .i64 x.fr) ∧ W.cell? ⟨p, off + j * 13 + 7, none⟩ = some (.int .i64 x.to) ∧ W.cell? ⟨p, off + j * 13 + 8, none⟩ = some (.int .i64 x.err) ∧ W.cell? ⟨p, off + j * 13 + 9, none⟩ = some (.bool x.is) ∧ W.cell? ⟨p, off + j * 13 + 10, none⟩ = some (.int .i64 x.n) ∧ W.cell? ⟨p, off + j * 13 + 11, none⟩ = some (.int .u64 x.w) ∧ W.cell? ⟨p, off + j * 13 + 12, none⟩ = some (.slice x.A x.list.length x.cap) ∧ W.cell? ⟨p, off + i * 13, none⟩ = some (.int .i64 a.me) ∧ W.cell? ⟨p, off + i * 13 + 1, none⟩ = some (.int .i64 a.k) ∧ W.cell? ⟨p, off + i * 13 + 2, none⟩ = some (.int .i64 a.u) ∧ W.cell? ⟨p, off + i * 13 + 3, none⟩ = some (.int .i64 a.v) ∧ W.cell? ⟨p, off + i * 13 + 4, none⟩ = some (.int .u64 a.x) ∧ W.cell? ⟨p, off + i * 13 + 5, none⟩ = some (.int .i64 a.era) ∧ W.cell? ⟨p, off + i * 13 + 6, none⟩ = some (.int .i64 a.fr) ∧ W.cell? ⟨p, off + i * 13 + 7, none⟩ = some (.int .i64 a.to) ∧ W.cell? ⟨p, off + i * 13 + 8, none⟩ = some (.int .i64 a.err) ∧ W.cell? ⟨p, off + i * 13 + 9, none⟩ = some (.bool a.is) ∧ W.cell? ⟨p, off + i * 13 + 10, none⟩ = some (.int .i64 a.n) ∧ W.cell? ⟨p, off + i * 13 + 11, none⟩ = some (.int .u64 a.w) ∧ W.cell? ⟨p, off + i * 13 + 12, none⟩ = some (.slice a.A a.list.length a.cap) ∧ Below w.heap.size w W) := Lib.hid fun W hW => by
                    have e1 := AT.out W hW k b HBL.out
                    have e2 := AT.out W hW j x HXL.out
                    have e3 := AT.out W hW i a HAL.out
                    exact ⟨e1.1, e1.2.1, e1.2.2.1, e1.2.2.2.1, e1.2.2.2.2.1, e1.2.2.2.2.2.1, e1.2.2.2.2.2.2.1, e1.2.2.2.2.2.2.2.1, e1.2.2.2.2.2.2.2.2.1, e1.2.2.2.2.2.2.2.2.2.1, e1.2.2.2.2.2.2.2.2.2.2.1, e1.2.2.2.2.2.2.2.2.2.2.2.1, e1.2.2.2.2.2.2.2.2.2.2.2.2, e2.1, e2.2.1, e2.2.2.1, e2.2.2.2.1, e2.2.2.2.2.1, e2.2.2.2.2.2.1, e2.2.2.2.2.2.2.1, e2.2.2.2.2.2.2.2.1, e2.2.2.2.2.2.2.2.2.1, e2.2.2.2.2.2.2.2.2.2.1, e2.2.2.2.2.2.2.2.2.2.2.1, e2.2.2.2.2.2.2.2.2.2.2.2.1, e2.2.2.2.2.2.2.2.2.2.2.2.2, e3.1, e3.2.1, e3.2.2.1, e3.2.2.2.1, e3.2.2.2.2.1, e3.2.2.2.2.2.1, e3.2.2.2.2.2.2.1, e3.2.2.2.2.2.2.2.1, e3.2.2.2.2.2.2.2.2.1, e3.2.2.2.2.2.2.2.2.2.1, e3.2.2.2.2.2.2.2.2.2.2.1, e3.2.2.2.2.2.2.2.2.2.2.2.1, e3.2.2.2.2.2.2.2.2.2.2.2.2, hW⟩
                  have KK : Hid (∀ W W', (W.cell? ⟨p, off + k * 13, none⟩ = some (.int .i64 b.me) ∧ W.cell? ⟨p, off + k * 13 + 1, none⟩ = some (.int .i64 b.k) ∧ W.cell? ⟨p, off + k * 13 + 2, none⟩ = some (.int .i64 b.u) ∧ W.cell? ⟨p, off + k * 13 + 3, none⟩ = some (.int .i64 b.v) ∧ W.cell? ⟨p, off + k * 13 + 4, none⟩ = some (.int .u64 b.x) ∧ W.cell? ⟨p, off + k * 13 + 5, none⟩ = some (.int .i64 b.era) ∧ W.cell? ⟨p, off + k * 13 + 6, none⟩ = some (.int .i64 b.fr) ∧ W.cell? ⟨p, off + k * 13 + 7, none⟩ = some (.int .i64 b.to) ∧ W.cell? ⟨p, off + k * 13 + 8, none⟩ = some (.int .i64 b.err) ∧ W.cell? ⟨p, off + k * 13 + 9, none⟩ = some (.bool b.is) ∧ W.cell? ⟨p, off + k * 13 + 10, none⟩ = some (.int .i64 b.n) ∧ W.cell? ⟨p, off + k * 13 + 11, none⟩ = some (.int .u64 b.w) ∧ W.cell? ⟨p, off + k * 13 + 12, none⟩ = some (.slice b.A b.list.length b.cap) ∧ W.cell? ⟨p, off + j * 13, none⟩ = some (.int .i64 x.me) ∧ W.cell? ⟨p, off + j * 13 + 1, none⟩ = some (.int .i64 x.k) ∧ W.cell? ⟨p, off + j * 13 + 2, none⟩ = some (.int .i64 x.u) ∧ W.cell? ⟨p, off + j * 13 + 3, none⟩ = some (.int .i64 x.v) ∧ W.cell? ⟨p, off + j * 13 + 4, none⟩ = some (.int .u64 x.x) ∧ W.cell? ⟨p, off + j * 13 + 5, none⟩ = some (.int .i64 x.era) ∧ W.cell? ⟨p, off + j * 13 + 6, none⟩ = some (.int .i64 x.fr) ∧ W.cell? ⟨p, off + j * 13 + 7, none⟩ = some (.int .i64 x.to) ∧ W.cell? ⟨p, off + j * 13 + 8, none⟩ = some (.int .i64 x.err) ∧ W.cell? ⟨p, off + j * 13 + 9, none⟩ = some (.bool x.is) ∧ W.cell? ⟨p, off + j * 13 + 10, none⟩ = some (.int .i64 x.n) ∧ W.cell? ⟨p, off + j * 13 + 11, none⟩ = some (.int .u64 x.w) ∧ W.cell? ⟨p, off + j * 13 + 12, none⟩ = some (.slice x.A x.list.length x.cap) ∧ W.cell? ⟨p, off + i * 13, none⟩ = some (.int .i64 a.me) ∧ W.cell? ⟨p, off + i * 13 + 1, none⟩ = some (.int .i64 a.k) ∧ W.cell? ⟨p, off + i * 13 + 2, none⟩ = some (.int .i64 a.u) ∧ W.cell? ⟨p, off + i * 13 + 3, none⟩ = some (.int .i64 a.v) ∧ W.cell? ⟨p, off + i * 13 + 4, none⟩ = some (.int .u64 a.x) ∧ W.cell? ⟨p, off + i * 13 + 5, none⟩ = some (.int .i64 a.era) ∧ W.cell? ⟨p, off + i * 13 + 6, none⟩ = some (.int .i64 a.fr) ∧ W.cell? ⟨p, off + i * 13 + 7, none⟩ = some (.int .i64 a.to) ∧ W.cell? ⟨p, off + i * 13 + 8, none⟩ = some (.int .i64 a.err) ∧ W.cell? ⟨p, off + i * 13 + 9, none⟩ = some (.bool a.is) ∧ W.cell? ⟨p, off + i * 13 + 10, none⟩ = some (.int .i64 a.n) ∧ W.cell? ⟨p, off + i * 13 + 11, none⟩ = some (.int .u64 a.w) ∧ W.cell? ⟨p, off + i * 13 + 12, none⟩ = some (.slice a.A a.list.length a.cap) ∧ Below w.heap.size w W) → Below W.heap.size W W' → (W'.cell? ⟨p, off + k * 13, none⟩ = some (.int .i64 b.me) ∧ W'.cell? ⟨p, off + k * 13 + 1, none⟩ = some (.int .i64 b.k) ∧ W'.cell? ⟨p, off + k * 13 + 2, none⟩ = some (.int .i64 b.u) ∧ W'.cell? ⟨p, off + k * 13 + 3, none⟩ = some (.int .i64 b.v) ∧ W'.cell? ⟨p, off + k * 13 + 4, none⟩ = some (.int .u64 b.x) ∧ W'.cell? ⟨p, off + k * 13 + 5, none⟩ = some (.int .i64 b.era) ∧ W'.cell? ⟨p, off + k * 13 + 6, none⟩ = some (.int .i64 b.fr) ∧ W'.cell? ⟨p, off + k * 13 + 7, none⟩ = some (.int .i64 b.to) ∧ W'.cell? ⟨p, off + k * 13 + 8, none⟩ = some (.int .i64 b.err) ∧ W'.cell? ⟨p, off + k * 13 + 9, none⟩ = some (.bool b.is) ∧ W'.cell? ⟨p, off + k * 13 + 10, none⟩ = some (.int .i64 b.n) ∧ W'.cell? ⟨p, off + k * 13 + 11, none⟩ = some (.int .u64 b.w) ∧ W'.cell? ⟨p, off + k * 13 + 12, none⟩ = some (.slice b.A b.list.length b.cap) ∧ W'.cell? ⟨p, off + j * 13, none⟩ = some (.int .i64 x.me) ∧ W'.cell? ⟨p, off + j * 13 + 1, none⟩ = some (.int .i64 x.k) ∧ W'.cell? ⟨p, off + j * 13 + 2, none⟩ = some (.int .i64 x.u) ∧ W'.cell? ⟨p, off + j * 13 + 3, none⟩ = some (.int .i64 x.v) ∧ W'.cell? ⟨p, off + j * 13 + 4, none⟩ = some (.int .u64 x.x) ∧ W'.cell? ⟨p, off + j * 13 + 5, none⟩ = some (.int .i64 x.era) ∧ W'.cell? ⟨p, off + j * 13 + 6, none⟩ = some (.int .i64 x.fr) ∧ W'.cell? ⟨p, off + j * 13 + 7, none⟩ = some (.int .i64 x.to) ∧ W'.cell? ⟨p, off + j * 13 + 8, none⟩ = some (.int .i64 x.err) ∧ W'.cell? ⟨p, off + j * 13 + 9, none⟩ = some (.bool x.is) ∧ W'.cell? ⟨p, off + j * 13 + 10, none⟩ = some (.int .i64 x.n) ∧ W'.cell? ⟨p, off + j * 13 + 11, none⟩ = some (.int .u64 x.w) ∧ W'.cell? ⟨p, off + j * 13 + 12, none⟩ = some (.slice x.A x.list.length x.cap) ∧ W'.cell? ⟨p, off + i * 13, none⟩ = some (.int .i64 a.me) ∧ W'.cell? ⟨p, off + i * 13 + 1, none⟩ = some (.int .i64 a.k) ∧ W'.cell? ⟨p, off + i * 13 + 2, none⟩ = some (.int .i64 a.u) ∧ W'.cell? ⟨p, off + i * 13 + 3, none⟩ = some (.int .i64 a.v) ∧ W'.cell? ⟨p, off + i * 13 + 4, none⟩ = some (.int .u64 a.x) ∧ W'.cell? ⟨p, off + i * 13 + 5, none⟩ = some (.int .i64 a.era) ∧ W'.cell? ⟨p, off + i * 13 + 6, none⟩ = some (.int .i64 a.fr) ∧ W'.cell? ⟨p, off + i * 13 + 7, none⟩ = some (.int .i64 a.to) ∧ W'.cell? ⟨p, off + i * 13 + 8, none⟩ = some (.int .i64 a.err) ∧ W'.cell? ⟨p, off + i * 13 + 9, none⟩ = some (.bool a.is) ∧ W'.cell? ⟨p, off + i * 13 + 10, none⟩ = some (.int .i64 a.n) ∧ W'.cell? ⟨p, off + i * 13 + 11, none⟩ = some (.int .u64 a.w) ∧ W'.cell? ⟨p, off + i * 13 + 12, none⟩ = some (.slice a.A a.list.length a.cap) ∧ Below w.heap.size w W')) := Lib.hid fun W W' h hb => KS.out W' (by
                    have h9 := h.2.2.2.2.2.2.2.2.2.2.2.2.2.2.2.2.2.2.2.2.2.2.2.2.2.2.2.2.2.2.2.2.2.2.2.2.2.2.2
                    exact h9.trans (hb.mono h9.size))
                  cases q3 : beforeB b x
                  · have DK : Hid (∀ W, Calls Try.prog 15 #[b.val, x.val] W fun e w' => e = .returned (.bool false) ∧ Below W.heap.size W w') := Lib.hid fun W => by have := before_any b x W; rw [q3] at this; exact this
                    clear q3
                    unfold Cl.val at DK
                    have HK0 := Lib.hid (KS.out _ DR.out)
                    go_wp2
                    refine wp_region_held_drew (S := fun w' => w'.cell? ⟨p, off + k * 13, none⟩ = some (.int .i64 b.me) ∧ w'.cell? ⟨p, off + k * 13 + 1, none⟩ = some (.int .i64 b.k) ∧ w'.cell? ⟨p, off + k * 13 + 2, none⟩ = some (.int .i64 b.u) ∧ w'.cell? ⟨p, off + k * 13 + 3, none⟩ = some (.int .i64 b.v) ∧ w'.cell? ⟨p, off + k * 13 + 4, none⟩ = some (.int .u64 b.x) ∧ w'.cell? ⟨p, off + k * 13 + 5, none⟩ = some (.int .i64 b.era) ∧ w'.cell? ⟨p, off + k * 13 + 6, none⟩ = some (.int .i64 b.fr) ∧ w'.cell? ⟨p, off + k * 13 + 7, none⟩ = some (.int .i64 b.to) ∧ w'.cell? ⟨p, off + k * 13 + 8, none⟩ = some (.int .i64 b.err) ∧ w'.cell? ⟨p, off + k * 13 + 9, none⟩ = some (.bool b.is) ∧ w'.cell? ⟨p, off + k * 13 + 10, none⟩ = some (.int .i64 b.n) ∧ w'.cell? ⟨p, off + k * 13 + 11, none⟩ = some (.int .u64 b.w) ∧ w'.cell? ⟨p, off + k * 13 + 12, none⟩ = some (.slice b.A b.list.length b.cap) ∧ w'.cell? ⟨p, off + j * 13, none⟩ = some (.int .i64 x.me) ∧ w'.cell? ⟨p, off + j * 13 + 1, none⟩ = some (.int .i64 x.k) ∧ w'.cell? ⟨p, off + j * 13 + 2, none⟩ = some (.int .i64 x.u) ∧ w'.cell? ⟨p, off + j * 13 + 3, none⟩ = some (.int .i64 x.v) ∧ w'.cell? ⟨p, off + j * 13 + 4, none⟩ = some (.int .u64 x.x) ∧ w'.cell? ⟨p, off + j * 13 + 5, none⟩ = some (.int .i64 x.era) ∧ w'.cell? ⟨p, off + j * 13 + 6, none⟩ = some (.int .i64 x.fr) ∧ w'.cell? ⟨p, off + j * 13 + 7, none⟩ = some (.int .i64 x.to) ∧ w'.cell? ⟨p, off + j * 13 + 8, none⟩ = some (.int .i64 x.err) ∧ w'.cell? ⟨p, off + j * 13 + 9, none⟩ = some (.bool x.is) ∧ w'.cell? ⟨p, off + j * 13 + 10, none⟩ = some (.int .i64 x.n) ∧ w'.cell? ⟨p, off + j * 13 + 11, none⟩ = some (.int .u64 x.w) ∧ w'.cell? ⟨p, off + j * 13 + 12, none⟩ = some (.slice x.A x.list.length x.cap) ∧ w'.cell? ⟨p, off + i * 13, none⟩ = some (.int .i64 a.me) ∧ w'.cell? ⟨p, off + i * 13 + 1, none⟩ = some (.int .i64 a.k) ∧ w'.cell? ⟨p, off + i * 13 + 2, none⟩ = some (.int .i64 a.u) ∧ w'.cell? ⟨p, off + i * 13 + 3, none⟩ = some (.int .i64 a.v) ∧ w'.cell? ⟨p, off + i * 13 + 4, none⟩ = some (.int .u64 a.x) ∧ w'.cell? ⟨p, off + i * 13 + 5, none⟩ = some (.int .i64 a.era) ∧ w'.cell? ⟨p, off + i * 13 + 6, none⟩ = some (.int .i64 a.fr) ∧ w'.cell? ⟨p, off + i * 13 + 7, none⟩ = some (.int .i64 a.to) ∧ w'.cell? ⟨p, off + i * 13 + 8, none⟩ = some (.int .i64 a.err) ∧ w'.cell? ⟨p, off + i * 13 + 9, none⟩ = some (.bool a.is) ∧ w'.cell? ⟨p, off + i * 13 + 10, none⟩ = some (.int .i64 a.n) ∧ w'.cell? ⟨p, off + i * 13 + 11, none⟩ = some (.int .u64 a.w) ∧ w'.cell? ⟨p, off + i * 13 + 12, none⟩ = some (.slice a.A a.list.length a.cap) ∧ Below w.heap.size w w') (by kernel_rfl) HK0.out (fun hHeld => ?_)
                    refine wpAnyH_take (i := 0) (oi := { dst := some 97, op := Go.Op.move (Go.Operand.tmp 6), type := 4, pos := "law.go:80", after := #[], guard := none }) (v := ?v0) rfl (by kernel_rfl) (by kernel_rfl) (by kernel_rfl) (fun _ _ _ h => h) (Or.inl ⟨by rfl, ?y0⟩) (by assumption) ?r0
                    case y0 => (intro w hSw; (try dsimp only at hSw); go_simp; try (with_reducible rfl))
                    try simp only [Act.put, List.setIfInBounds_toArray, List.set_cons_zero, List.set_cons_succ]
                    refine wpAnyH_take (i := 1) (oi := { dst := some 98, op := Go.Op.move (Go.Operand.tmp 97), type := 4, pos := "law.go:80", after := #[{ on := 0, ground := Go.Ground.data }], guard := none }) (v := ?v1) rfl (by kernel_rfl) (by kernel_rfl) (by kernel_rfl) (fun _ _ _ h => h) (Or.inl ⟨by rfl, ?y1⟩) (by assumption) ?r1
                    case y1 => (intro w hSw; (try dsimp only at hSw); go_simp; try (with_reducible rfl))
                    try simp only [Act.put, List.setIfInBounds_toArray, List.set_cons_zero, List.set_cons_succ]
                    refine wpAnyH_take (i := 2) (oi := { dst := some 99, op := Go.Op.move (Go.Operand.tmp 0), type := 22, pos := "law.go:80", after := #[{ on := 1, ground := Go.Ground.guard }], guard := some (1, true) }) (v := ?v2) rfl (by kernel_rfl) (by kernel_rfl) (by kernel_rfl) (fun _ _ _ h => h) (Or.inl ⟨by rfl, ?y2⟩) (by assumption) ?r2
                    case y2 => (intro w hSw; (try dsimp only at hSw); go_simp; try (with_reducible rfl))
                    try simp only [Act.put, List.setIfInBounds_toArray, List.set_cons_zero, List.set_cons_succ]
                    refine wpAnyH_take (i := 3) (oi := { dst := some 100, op := Go.Op.move (Go.Operand.tmp 5), type := 3, pos := "law.go:80", after := #[{ on := 1, ground := Go.Ground.guard }], guard := some (1, true) }) (v := ?v3) rfl (by kernel_rfl) (by kernel_rfl) (by kernel_rfl) (fun _ _ _ h => h) (Or.inl ⟨by rfl, ?y3⟩) (by assumption) ?r3
                    case y3 => (intro w hSw; (try dsimp only at hSw); go_simp; try (with_reducible rfl))
                    try simp only [Act.put, List.setIfInBounds_toArray, List.set_cons_zero, List.set_cons_succ]
                    refine wpAnyH_take (i := 4) (oi := { dst := some 101, op := Go.Op.indexAddr 22 (Go.Operand.tmp 99) (Go.Operand.tmp 100), type := 0, pos := "law.go:80", after := #[{ on := 2, ground := Go.Ground.data }, { on := 3, ground := Go.Ground.data }, { on := 1, ground := Go.Ground.guard }], guard := some (1, true) }) (v := ?v4) rfl (by kernel_rfl) (by kernel_rfl) (by kernel_rfl) (fun _ _ _ h => h) (Or.inl ⟨by rfl, ?y4⟩) (by assumption) ?r4
                    case y4 => (intro w hSw; (try dsimp only at hSw); go_simp; try (with_reducible rfl))
                    try simp only [Act.put, List.setIfInBounds_toArray, List.set_cons_zero, List.set_cons_succ]
                    refine wpAnyH_take (i := 5) (oi := { dst := some 102, op := Go.Op.load 32 (Go.Operand.tmp 101), type := 32, pos := "law.go:80", after := #[{ on := 4, ground := Go.Ground.data }, { on := 1, ground := Go.Ground.guard }], guard := some (1, true) }) (v := ?v5) rfl (by kernel_rfl) (by kernel_rfl) (by kernel_rfl) (fun _ _ _ h => h) (Or.inl ⟨by rfl, ?y5⟩) (by assumption) ?r5
                    case y5 => (intro w hSw; (try dsimp only at hSw); go_simp; try (with_reducible rfl))
                    try simp only [Act.put, List.setIfInBounds_toArray, List.set_cons_zero, List.set_cons_succ]
                    refine wpAnyH_take (i := 6) (oi := { dst := some 103, op := Go.Op.move (Go.Operand.tmp 0), type := 22, pos := "law.go:80", after := #[{ on := 1, ground := Go.Ground.guard }], guard := some (1, true) }) (v := ?v6) rfl (by kernel_rfl) (by kernel_rfl) (by kernel_rfl) (fun _ _ _ h => h) (Or.inl ⟨by rfl, ?y6⟩) (by assumption) ?r6
                    case y6 => (intro w hSw; (try dsimp only at hSw); go_simp; try (with_reducible rfl))
                    try simp only [Act.put, List.setIfInBounds_toArray, List.set_cons_zero, List.set_cons_succ]
                    refine wpAnyH_take (i := 7) (oi := { dst := some 104, op := Go.Op.move (Go.Operand.tmp 8), type := 3, pos := "law.go:80", after := #[{ on := 1, ground := Go.Ground.guard }], guard := some (1, true) }) (v := ?v7) rfl (by kernel_rfl) (by kernel_rfl) (by kernel_rfl) (fun _ _ _ h => h) (Or.inl ⟨by rfl, ?y7⟩) (by assumption) ?r7
                    case y7 => (intro w hSw; (try dsimp only at hSw); go_simp; try (with_reducible rfl))
                    try simp only [Act.put, List.setIfInBounds_toArray, List.set_cons_zero, List.set_cons_succ]
                    refine wpAnyH_take (i := 8) (oi := { dst := some 105, op := Go.Op.indexAddr 22 (Go.Operand.tmp 103) (Go.Operand.tmp 104), type := 0, pos := "law.go:80", after := #[{ on := 6, ground := Go.Ground.data }, { on := 7, ground := Go.Ground.data }, { on := 1, ground := Go.Ground.guard }], guard := some (1, true) }) (v := ?v8) rfl (by kernel_rfl) (by kernel_rfl) (by kernel_rfl) (fun _ _ _ h => h) (Or.inl ⟨by rfl, ?y8⟩) (by assumption) ?r8
                    case y8 => (intro w hSw; (try dsimp only at hSw); go_simp; try (with_reducible rfl))
                    try simp only [Act.put, List.setIfInBounds_toArray, List.set_cons_zero, List.set_cons_succ]
                    refine wpAnyH_take (i := 9) (oi := { dst := some 106, op := Go.Op.load 32 (Go.Operand.tmp 105), type := 32, pos := "law.go:80", after := #[{ on := 8, ground := Go.Ground.data }, { on := 1, ground := Go.Ground.guard }], guard := some (1, true) }) (v := ?v9) rfl (by kernel_rfl) (by kernel_rfl) (by kernel_rfl) (fun _ _ _ h => h) (Or.inl ⟨by rfl, ?y9⟩) (by assumption) ?r9
                    case y9 => (intro w hSw; (try dsimp only at hSw); go_simp; try (with_reducible rfl))
                    try simp only [Act.put, List.setIfInBounds_toArray, List.set_cons_zero, List.set_cons_succ]
                    refine wpAnyH_ready (rs := [10]) (by kernel_rfl) (by simp) ?_
                    refine AllReadyH.cons (o := { dst := some 107, op := Go.Op.call { callee := Go.Callee.value (Go.Operand.func 15), args := #[Go.Operand.tmp 102, Go.Operand.tmp 106], argTypes := #[32, 32] }, type := 4, pos := "law.go:80", after := #[{ on := 5, ground := Go.Ground.data }, { on := 9, ground := Go.Ground.data }, { on := 1, ground := Go.Ground.chain }, { on := 1, ground := Go.Ground.guard }], guard := some (1, true) }) rfl (fun K hK => ?_) AllReadyH.nil
                    go_simp
                    go_at_call 15
                    with_reducible refine (DK.out _).mono ?_
                    rintro e w' ⟨rfl, hb⟩
                    try go_simp
                    refine hK.out _ _ ?_ (fun hHeld2 => ?_)
                    · exact KK.out _ _ (by assumption) (by assumption)
                    clear hK K
                    try simp only [Act.put, List.setIfInBounds_toArray, List.set_cons_zero, List.set_cons_succ]
                    refine wpAnyH_take (i := 11) (oi := { dst := some 108, op := Go.Op.pick (Go.Operand.tmp 98) (Go.Operand.tmp 107) (Go.Operand.const (Go.Value.bool false)), type := 4, pos := "law.go:80", after := #[{ on := 1, ground := Go.Ground.data }, { on := 10, ground := Go.Ground.data }], guard := none }) (v := ?v11) rfl (by kernel_rfl) (by kernel_rfl) (by kernel_rfl) (fun _ _ _ h => h) (Or.inl ⟨by rfl, ?y11⟩) (by assumption) ?r11
                    case y11 => (intro w hSw; (try dsimp only at hSw); go_simp; try (with_reducible rfl))
                    try simp only [Act.put, List.setIfInBounds_toArray, List.set_cons_zero, List.set_cons_succ]
                    refine wpAnyH_take (i := 12) (oi := { dst := some 109, op := Go.Op.move (Go.Operand.tmp 108), type := 4, pos := "law.go:80", after := #[{ on := 11, ground := Go.Ground.data }, { on := 10, ground := Go.Ground.chain }], guard := none }) (v := ?v12) rfl (by kernel_rfl) (by kernel_rfl) (by kernel_rfl) (fun _ _ _ h => h) (Or.inl ⟨by rfl, ?y12⟩) (by assumption) ?r12
                    case y12 => (intro w hSw; (try dsimp only at hSw); go_simp; try (with_reducible rfl))
                    try simp only [Act.put, List.setIfInBounds_toArray, List.set_cons_zero, List.set_cons_succ]
                    refine wpAnyH_take (i := 13) (oi := { dst := some 110, op := Go.Op.move (Go.Operand.tmp 0), type := 22, pos := "law.go:80", after := #[{ on := 12, ground := Go.Ground.guard }], guard := some (12, true) }) (v := undef) rfl (by kernel_rfl) (by kernel_rfl) (by kernel_rfl) (fun _ _ _ h => h) (Or.inr ⟨by rfl, rfl⟩) (by assumption) ?_
                    try simp only [Act.put, List.setIfInBounds_toArray, List.set_cons_zero, List.set_cons_succ]
                    refine wpAnyH_take (i := 14) (oi := { dst := some 111, op := Go.Op.move (Go.Operand.tmp 4), type := 3, pos := "law.go:80", after := #[{ on := 12, ground := Go.Ground.guard }], guard := some (12, true) }) (v := undef) rfl (by kernel_rfl) (by kernel_rfl) (by kernel_rfl) (fun _ _ _ h => h) (Or.inr ⟨by rfl, rfl⟩) (by assumption) ?_
                    try simp only [Act.put, List.setIfInBounds_toArray, List.set_cons_zero, List.set_cons_succ]
                    refine wpAnyH_take (i := 15) (oi := { dst := some 112, op := Go.Op.indexAddr 22 (Go.Operand.tmp 110) (Go.Operand.tmp 111), type := 0, pos := "law.go:80", after := #[{ on := 13, ground := Go.Ground.data }, { on := 14, ground := Go.Ground.data }, { on := 12, ground := Go.Ground.guard }], guard := some (12, true) }) (v := undef) rfl (by kernel_rfl) (by kernel_rfl) (by kernel_rfl) (fun _ _ _ h => h) (Or.inr ⟨by rfl, rfl⟩) (by assumption) ?_
                    try simp only [Act.put, List.setIfInBounds_toArray, List.set_cons_zero, List.set_cons_succ]
                    refine wpAnyH_take (i := 16) (oi := { dst := some 113, op := Go.Op.load 32 (Go.Operand.tmp 112), type := 32, pos := "law.go:80", after := #[{ on := 15, ground := Go.Ground.data }, { on := 12, ground := Go.Ground.guard }], guard := some (12, true) }) (v := undef) rfl (by kernel_rfl) (by kernel_rfl) (by kernel_rfl) (fun _ _ _ h => h) (Or.inr ⟨by rfl, rfl⟩) (by assumption) ?_
                    try simp only [Act.put, List.setIfInBounds_toArray, List.set_cons_zero, List.set_cons_succ]
                    refine wpAnyH_take (i := 17) (oi := { dst := some 114, op := Go.Op.move (Go.Operand.tmp 0), type := 22, pos := "law.go:80", after := #[{ on := 12, ground := Go.Ground.guard }], guard := some (12, true) }) (v := undef) rfl (by kernel_rfl) (by kernel_rfl) (by kernel_rfl) (fun _ _ _ h => h) (Or.inr ⟨by rfl, rfl⟩) (by assumption) ?_
                    try simp only [Act.put, List.setIfInBounds_toArray, List.set_cons_zero, List.set_cons_succ]
                    refine wpAnyH_take (i := 18) (oi := { dst := some 115, op := Go.Op.move (Go.Operand.tmp 8), type := 3, pos := "law.go:80", after := #[{ on := 12, ground := Go.Ground.guard }], guard := some (12, true) }) (v := undef) rfl (by kernel_rfl) (by kernel_rfl) (by kernel_rfl) (fun _ _ _ h => h) (Or.inr ⟨by rfl, rfl⟩) (by assumption) ?_
                    try simp only [Act.put, List.setIfInBounds_toArray, List.set_cons_zero, List.set_cons_succ]
                    refine wpAnyH_take (i := 19) (oi := { dst := some 116, op := Go.Op.indexAddr 22 (Go.Operand.tmp 114) (Go.Operand.tmp 115), type := 0, pos := "law.go:80", after := #[{ on := 17, ground := Go.Ground.data }, { on := 18, ground := Go.Ground.data }, { on := 12, ground := Go.Ground.guard }], guard := some (12, true) }) (v := undef) rfl (by kernel_rfl) (by kernel_rfl) (by kernel_rfl) (fun _ _ _ h => h) (Or.inr ⟨by rfl, rfl⟩) (by assumption) ?_
                    try simp only [Act.put, List.setIfInBounds_toArray, List.set_cons_zero, List.set_cons_succ]
                    refine wpAnyH_take (i := 20) (oi := { dst := some 117, op := Go.Op.load 32 (Go.Operand.tmp 116), type := 32, pos := "law.go:80", after := #[{ on := 19, ground := Go.Ground.data }, { on := 12, ground := Go.Ground.guard }], guard := some (12, true) }) (v := undef) rfl (by kernel_rfl) (by kernel_rfl) (by kernel_rfl) (fun _ _ _ h => h) (Or.inr ⟨by rfl, rfl⟩) (by assumption) ?_
                    try simp only [Act.put, List.setIfInBounds_toArray, List.set_cons_zero, List.set_cons_succ]
                    refine wpAnyH_take (i := 21) (oi := { dst := some 118, op := Go.Op.call { callee := Go.Callee.value (Go.Operand.func 15), args := #[Go.Operand.tmp 113, Go.Operand.tmp 117], argTypes := #[32, 32] }, type := 4, pos := "law.go:80", after := #[{ on := 16, ground := Go.Ground.data }, { on := 20, ground := Go.Ground.data }, { on := 12, ground := Go.Ground.chain }, { on := 12, ground := Go.Ground.guard }], guard := some (12, true) }) (v := undef) rfl (by kernel_rfl) (by kernel_rfl) (by kernel_rfl) (fun _ _ _ h => h) (Or.inr ⟨by rfl, rfl⟩) (by assumption) ?_
                    try simp only [Act.put, List.setIfInBounds_toArray, List.set_cons_zero, List.set_cons_succ]
                    refine wpAnyH_take (i := 22) (oi := { dst := some 119, op := Go.Op.unOp Go.UnOp.not 4 (Go.Operand.tmp 118), type := 4, pos := "law.go:80", after := #[{ on := 21, ground := Go.Ground.data }, { on := 12, ground := Go.Ground.guard }], guard := some (12, true) }) (v := undef) rfl (by kernel_rfl) (by kernel_rfl) (by kernel_rfl) (fun _ _ _ h => h) (Or.inr ⟨by rfl, rfl⟩) (by assumption) ?_
                    try simp only [Act.put, List.setIfInBounds_toArray, List.set_cons_zero, List.set_cons_succ]
                    refine wpAnyH_take (i := 23) (oi := { dst := some 120, op := Go.Op.pick (Go.Operand.tmp 109) (Go.Operand.tmp 119) (Go.Operand.const (Go.Value.bool false)), type := 4, pos := "law.go:80", after := #[{ on := 12, ground := Go.Ground.data }, { on := 22, ground := Go.Ground.data }], guard := none }) (v := ?v23) rfl (by kernel_rfl) (by kernel_rfl) (by kernel_rfl) (fun _ _ _ h => h) (Or.inl ⟨by rfl, ?y23⟩) (by assumption) ?r23
                    case y23 => (intro w hSw; (try dsimp only at hSw); go_simp; try (with_reducible rfl))
                    try simp only [Act.put, List.setIfInBounds_toArray, List.set_cons_zero, List.set_cons_succ]
                    refine wpAnyH_done (by kernel_rfl) ?_ _
                    have HX := Lib.hid (DR.out.trans (hb.mono DR.out.size))
                    clear hb
                    go_wp2
                    first
                      | (refine ⟨⟨j + 1, by omega, by go_num, HX.out⟩, by simp [intOf]; omega⟩)
                      | (go_roundw
                         case rel => exact ⟨j + 1, by omega, by go_num, HX.out⟩
                         case measure => simp [intOf]; omega)
                  · have q4 := ord_trans ((RP.out k b HBL.out).1) HQ1.out q3
                    have DK : Hid (∀ W, Calls Try.prog 15 #[b.val, x.val] W fun e w' => e = .returned (.bool true) ∧ Below W.heap.size W w') := Lib.hid fun W => by have := before_any b x W; rw [q3] at this; exact this
                    have DI : Hid (∀ W, Calls Try.prog 15 #[a.val, x.val] W fun e w' => e = .returned (.bool true) ∧ Below W.heap.size W w') := Lib.hid fun W => by have := before_any a x W; rw [q4] at this; exact this
                    clear q3 q4
                    unfold Cl.val at DK DI
                    have HK0 := Lib.hid (KS.out _ DR.out)
                    go_wp2
                    go_region_held3 (fun w' => w'.cell? ⟨p, off + k * 13, none⟩ = some (.int .i64 b.me) ∧ w'.cell? ⟨p, off + k * 13 + 1, none⟩ = some (.int .i64 b.k) ∧ w'.cell? ⟨p, off + k * 13 + 2, none⟩ = some (.int .i64 b.u) ∧ w'.cell? ⟨p, off + k * 13 + 3, none⟩ = some (.int .i64 b.v) ∧ w'.cell? ⟨p, off + k * 13 + 4, none⟩ = some (.int .u64 b.x) ∧ w'.cell? ⟨p, off + k * 13 + 5, none⟩ = some (.int .i64 b.era) ∧ w'.cell? ⟨p, off + k * 13 + 6, none⟩ = some (.int .i64 b.fr) ∧ w'.cell? ⟨p, off + k * 13 + 7, none⟩ = some (.int .i64 b.to) ∧ w'.cell? ⟨p, off + k * 13 + 8, none⟩ = some (.int .i64 b.err) ∧ w'.cell? ⟨p, off + k * 13 + 9, none⟩ = some (.bool b.is) ∧ w'.cell? ⟨p, off + k * 13 + 10, none⟩ = some (.int .i64 b.n) ∧ w'.cell? ⟨p, off + k * 13 + 11, none⟩ = some (.int .u64 b.w) ∧ w'.cell? ⟨p, off + k * 13 + 12, none⟩ = some (.slice b.A b.list.length b.cap) ∧ w'.cell? ⟨p, off + j * 13, none⟩ = some (.int .i64 x.me) ∧ w'.cell? ⟨p, off + j * 13 + 1, none⟩ = some (.int .i64 x.k) ∧ w'.cell? ⟨p, off + j * 13 + 2, none⟩ = some (.int .i64 x.u) ∧ w'.cell? ⟨p, off + j * 13 + 3, none⟩ = some (.int .i64 x.v) ∧ w'.cell? ⟨p, off + j * 13 + 4, none⟩ = some (.int .u64 x.x) ∧ w'.cell? ⟨p, off + j * 13 + 5, none⟩ = some (.int .i64 x.era) ∧ w'.cell? ⟨p, off + j * 13 + 6, none⟩ = some (.int .i64 x.fr) ∧ w'.cell? ⟨p, off + j * 13 + 7, none⟩ = some (.int .i64 x.to) ∧ w'.cell? ⟨p, off + j * 13 + 8, none⟩ = some (.int .i64 x.err) ∧ w'.cell? ⟨p, off + j * 13 + 9, none⟩ = some (.bool x.is) ∧ w'.cell? ⟨p, off + j * 13 + 10, none⟩ = some (.int .i64 x.n) ∧ w'.cell? ⟨p, off + j * 13 + 11, none⟩ = some (.int .u64 x.w) ∧ w'.cell? ⟨p, off + j * 13 + 12, none⟩ = some (.slice x.A x.list.length x.cap) ∧ w'.cell? ⟨p, off + i * 13, none⟩ = some (.int .i64 a.me) ∧ w'.cell? ⟨p, off + i * 13 + 1, none⟩ = some (.int .i64 a.k) ∧ w'.cell? ⟨p, off + i * 13 + 2, none⟩ = some (.int .i64 a.u) ∧ w'.cell? ⟨p, off + i * 13 + 3, none⟩ = some (.int .i64 a.v) ∧ w'.cell? ⟨p, off + i * 13 + 4, none⟩ = some (.int .u64 a.x) ∧ w'.cell? ⟨p, off + i * 13 + 5, none⟩ = some (.int .i64 a.era) ∧ w'.cell? ⟨p, off + i * 13 + 6, none⟩ = some (.int .i64 a.fr) ∧ w'.cell? ⟨p, off + i * 13 + 7, none⟩ = some (.int .i64 a.to) ∧ w'.cell? ⟨p, off + i * 13 + 8, none⟩ = some (.int .i64 a.err) ∧ w'.cell? ⟨p, off + i * 13 + 9, none⟩ = some (.bool a.is) ∧ w'.cell? ⟨p, off + i * 13 + 10, none⟩ = some (.int .i64 a.n) ∧ w'.cell? ⟨p, off + i * 13 + 11, none⟩ = some (.int .u64 a.w) ∧ w'.cell? ⟨p, off + i * 13 + 12, none⟩ = some (.slice a.A a.list.length a.cap) ∧ Below w.heap.size w w') (first | exact HK0.out | assumption | exact KK.out _ _ (by assumption) (by assumption))
                      (first | (go_at_call 15; ((with_reducible refine (DK.out _).mono ?_); rintro e w' ⟨rfl, hb⟩)) | (go_at_call 15; ((with_reducible refine (DI.out _).mono ?_); rintro e w'' ⟨rfl, hb2⟩)))
                    have HX := Lib.hid ((DR.out.trans (hb.mono DR.out.size)).trans (hb2.mono (DR.out.trans (hb.mono DR.out.size)).size))
                    clear hb hb2
                    go_wp2
                    first
                      | (refine ⟨⟨j + 1, by omega, by go_num, HX.out⟩, by simp [intOf]; omega⟩)
                      | (go_roundw
                         case rel => exact ⟨j + 1, by omega, by go_num, HX.out⟩
                         case measure => simp [intOf]; omega)
                · go_wp2
                  first
                    | (refine ⟨⟨k + 1, by omega, by go_num, HE.out⟩, by simp [intOf]; omega⟩)
                    | (go_roundw
                       case rel => exact ⟨k + 1, by omega, by go_num, HE.out⟩
                       case measure => simp [intOf]; omega)
          · subst hik
            obtain rfl : a = b := by have := HAL.out.symm.trans HBL.out; injection this
            have q1 := ord_self RP.out HAL.out
            have q2 := q1
            have DA : Hid (∀ W, Calls Try.prog 15 #[a.val, a.val] W fun e w' => e = .returned (.bool false) ∧ Below W.heap.size W w') := Lib.hid fun W => by have := before_any a a W; rw [q1] at this; exact this
            have DB : Hid (∀ W, Calls Try.prog 15 #[a.val, a.val] W fun e w' => e = .returned (.bool false) ∧ Below W.heap.size W w') := Lib.hid fun W => by have := before_any a a W; rw [q2] at this; exact this
            clear q1 q2
            unfold Cl.val at DA DB
            obtain ⟨a0, a1, a2, a3, a4, a5, a6, a7, a8, a9, a10, a11, a12⟩ := AT.out wr HC.out i a HAL.out
            obtain ⟨b0, b1, b2, b3, b4, b5, b6, b7, b8, b9, b10, b11, b12⟩ := AT.out wr HC.out i a HAL.out
            go_wp2
            go_still_tail 8, (by kernel_rfl)
            change wpList _ _ _ _ _ wr.drew
            have X1 := Lib.hid HC.out.drew
            clear a0 a1 a2 a3 a4 a5 a6 a7 a8 a9 a10 a11 a12 b0 b1 b2 b3 b4 b5 b6 b7 b8 b9 b10 b11 b12
            generalize wr.drew = wd at X1 ⊢
            go_upto_region 11 with (go_at_call 15; ((with_reducible refine (DA.out _).mono ?_); rintro e w3 ⟨rfl, hb⟩; have X2 := Lib.hid (X1.out.trans (hb.mono X1.out.size)); obtain ⟨a0, a1, a2, a3, a4, a5, a6, a7, a8, a9, a10, a11, a12⟩ := AT.out w3 X2.out i a HAL.out; obtain ⟨b0, b1, b2, b3, b4, b5, b6, b7, b8, b9, b10, b11, b12⟩ := AT.out w3 X2.out i a HAL.out; clear hb))
            go_still_tail 8, (by kernel_rfl)
            change wpList _ _ _ _ _ w3.drew
            have X3 := Lib.hid X2.out.drew
            clear a0 a1 a2 a3 a4 a5 a6 a7 a8 a9 a10 a11 a12 b0 b1 b2 b3 b4 b5 b6 b7 b8 b9 b10 b11 b12
            generalize w3.drew = wd2 at X3 ⊢
            go_upto_region 12 with (go_at_call 15; ((with_reducible refine (DB.out _).mono ?_); rintro e w4 ⟨rfl, hb⟩; have X4 := Lib.hid (X3.out.trans (hb.mono X3.out.size)); obtain ⟨a0, a1, a2, a3, a4, a5, a6, a7, a8, a9, a10, a11, a12⟩ := AT.out w4 X4.out i a HAL.out; obtain ⟨b0, b1, b2, b3, b4, b5, b6, b7, b8, b9, b10, b11, b12⟩ := AT.out w4 X4.out i a HAL.out; clear hb))
            go_quiet (fail)
            clear a0 a1 a2 a3 a4 a5 a6 a7 a8 a9 a10 a11 a12 b0 b1 b2 b3 b4 b5 b6 b7 b8 b9 b10 b11 b12
            go_wp2
            go_loopw [8] (fun v wr => ∃ j : Nat, j ≤ n ∧ v = .int .i64 j ∧ Below w.heap.size w wr) (fun v _ => n - (intOf v).toNat)
            case atStart => exact ⟨0, Nat.zero_le _, rfl, below_drewN X4.out _⟩
            case round =>
              obtain ⟨j, hj, rfl, hb3⟩ := hrel
              have HE := Lib.hid hb3
              clear hb3
              by_cases hlj : j < n
              · have j0 : (0 : Int) ≤ (j : Int) := by omega
                have j1 : (j : Int) < (n : Int) := by omega
                have n5 : IntKind.i64.wrap ((j : Int) + 1) = (j : Int) + 1 := by rw [IntKind.wrap_i64] <;> omega
                go_wp2
                go_quiet (fail)
                go_wp2
                first
                  | (refine ⟨⟨j + 1, by omega, by go_num, below_drewN HE.out _⟩, by simp [intOf]; omega⟩)
                  | (go_roundw
                     case rel => exact ⟨j + 1, by omega, by go_num, below_drewN HE.out _⟩
                     case measure => simp [intOf]; omega)
              · go_wp2
                first
                  | (refine ⟨⟨i + 1, by omega, by go_num, HE.out⟩, by simp [intOf]; omega⟩)
                  | (go_roundw
                     case rel => exact ⟨i + 1, by omega, by go_num, HE.out⟩
                     case measure => simp [intOf]; omega)
          · have q1 := ord_back RP.out HBL.out HAL.out hik
            cases q2 : beforeB b a
            · have f1 : ((i : Int) == (k : Int)) = false := by simp; omega
              have f2 : decide ((i : Int) < (k : Int)) = false := by simp; omega
              have f3 : (i == k) = false := by simp; omega
              have f4 : decide (i < k) = false := by simp; omega
              clear hik
              have DA : Hid (∀ W, Calls Try.prog 15 #[a.val, b.val] W fun e w' => e = .returned (.bool false) ∧ Below W.heap.size W w') := Lib.hid fun W => by have := before_any a b W; rw [q1] at this; exact this
              have DB : Hid (∀ W, Calls Try.prog 15 #[b.val, a.val] W fun e w' => e = .returned (.bool false) ∧ Below W.heap.size W w') := Lib.hid fun W => by have := before_any b a W; rw [q2] at this; exact this
              clear q1 q2
              unfold Cl.val at DA DB
              obtain ⟨a0, a1, a2, a3, a4, a5, a6, a7, a8, a9, a10, a11, a12⟩ := AT.out wr HC.out i a HAL.out
              obtain ⟨b0, b1, b2, b3, b4, b5, b6, b7, b8, b9, b10, b11, b12⟩ := AT.out wr HC.out k b HBL.out
              go_wp2
              go_still_tail 8, (by kernel_rfl)
              change wpList _ _ _ _ _ wr.drew
              have X1 := Lib.hid HC.out.drew
              clear a0 a1 a2 a3 a4 a5 a6 a7 a8 a9 a10 a11 a12 b0 b1 b2 b3 b4 b5 b6 b7 b8 b9 b10 b11 b12
              generalize wr.drew = wd at X1 ⊢
              go_upto_region 11 with (go_at_call 15; ((with_reducible refine (DA.out _).mono ?_); rintro e w3 ⟨rfl, hb⟩; have X2 := Lib.hid (X1.out.trans (hb.mono X1.out.size)); obtain ⟨a0, a1, a2, a3, a4, a5, a6, a7, a8, a9, a10, a11, a12⟩ := AT.out w3 X2.out i a HAL.out; obtain ⟨b0, b1, b2, b3, b4, b5, b6, b7, b8, b9, b10, b11, b12⟩ := AT.out w3 X2.out k b HBL.out; clear hb))
              go_still_tail 8, (by kernel_rfl)
              change wpList _ _ _ _ _ w3.drew
              have X3 := Lib.hid X2.out.drew
              clear a0 a1 a2 a3 a4 a5 a6 a7 a8 a9 a10 a11 a12 b0 b1 b2 b3 b4 b5 b6 b7 b8 b9 b10 b11 b12
              generalize w3.drew = wd2 at X3 ⊢
              go_upto_region 12 with (go_at_call 15; ((with_reducible refine (DB.out _).mono ?_); rintro e w4 ⟨rfl, hb⟩; have X4 := Lib.hid (X3.out.trans (hb.mono X3.out.size)); obtain ⟨a0, a1, a2, a3, a4, a5, a6, a7, a8, a9, a10, a11, a12⟩ := AT.out w4 X4.out i a HAL.out; obtain ⟨b0, b1, b2, b3, b4, b5, b6, b7, b8, b9, b10, b11, b12⟩ := AT.out w4 X4.out k b HBL.out; clear hb))
              go_quiet (fail)
              clear a0 a1 a2 a3 a4 a5 a6 a7 a8 a9 a10 a11 a12 b0 b1 b2 b3 b4 b5 b6 b7 b8 b9 b10 b11 b12
              go_wp2
              go_loopw [8] (fun v wr => ∃ j : Nat, j ≤ n ∧ v = .int .i64 j ∧ Below w.heap.size w wr) (fun v _ => n - (intOf v).toNat)
              case atStart => exact ⟨0, Nat.zero_le _, rfl, below_drewN X4.out _⟩
              case round =>
                obtain ⟨j, hj, rfl, hb3⟩ := hrel
                have HE := Lib.hid hb3
                clear hb3
                by_cases hlj : j < n
                · have j0 : (0 : Int) ≤ (j : Int) := by omega
                  have j1 : (j : Int) < (n : Int) := by omega
                  have n5 : IntKind.i64.wrap ((j : Int) + 1) = (j : Int) + 1 := by rw [IntKind.wrap_i64] <;> omega
                  go_wp2
                  go_quiet (fail)
                  go_wp2
                  first
                    | (refine ⟨⟨j + 1, by omega, by go_num, below_drewN HE.out _⟩, by simp [intOf]; omega⟩)
                    | (go_roundw
                       case rel => exact ⟨j + 1, by omega, by go_num, below_drewN HE.out _⟩
                       case measure => simp [intOf]; omega)
                · go_wp2
                  first
                    | (refine ⟨⟨k + 1, by omega, by go_num, HE.out⟩, by simp [intOf]; omega⟩)
                    | (go_roundw
                       case rel => exact ⟨k + 1, by omega, by go_num, HE.out⟩
                       case measure => simp [intOf]; omega)
            · have f1 : ((i : Int) == (k : Int)) = false := by simp; omega
              have f2 : decide ((i : Int) < (k : Int)) = false := by simp; omega
              have f3 : (i == k) = false := by simp; omega
              have f4 : decide (i < k) = false := by simp; omega
              clear hik
              have DA : Hid (∀ W, Calls Try.prog 15 #[a.val, b.val] W fun e w' => e = .returned (.bool false) ∧ Below W.heap.size W w') := Lib.hid fun W => by have := before_any a b W; rw [q1] at this; exact this
              have DB : Hid (∀ W, Calls Try.prog 15 #[b.val, a.val] W fun e w' => e = .returned (.bool true) ∧ Below W.heap.size W w') := Lib.hid fun W => by have := before_any b a W; rw [q2] at this; exact this
              clear q1 q2
              unfold Cl.val at DA DB
              obtain ⟨a0, a1, a2, a3, a4, a5, a6, a7, a8, a9, a10, a11, a12⟩ := AT.out wr HC.out i a HAL.out
              obtain ⟨b0, b1, b2, b3, b4, b5, b6, b7, b8, b9, b10, b11, b12⟩ := AT.out wr HC.out k b HBL.out
              go_wp2
              go_still_tail 8, (by kernel_rfl)
              change wpList _ _ _ _ _ wr.drew
              have X1 := Lib.hid HC.out.drew
              clear a0 a1 a2 a3 a4 a5 a6 a7 a8 a9 a10 a11 a12 b0 b1 b2 b3 b4 b5 b6 b7 b8 b9 b10 b11 b12
              generalize wr.drew = wd at X1 ⊢
              go_upto_region 11 with (go_at_call 15; ((with_reducible refine (DA.out _).mono ?_); rintro e w3 ⟨rfl, hb⟩; have X2 := Lib.hid (X1.out.trans (hb.mono X1.out.size)); obtain ⟨a0, a1, a2, a3, a4, a5, a6, a7, a8, a9, a10, a11, a12⟩ := AT.out w3 X2.out i a HAL.out; obtain ⟨b0, b1, b2, b3, b4, b5, b6, b7, b8, b9, b10, b11, b12⟩ := AT.out w3 X2.out k b HBL.out; clear hb))
              go_still_tail 8, (by kernel_rfl)
              change wpList _ _ _ _ _ w3.drew
              have X3 := Lib.hid X2.out.drew
              clear a0 a1 a2 a3 a4 a5 a6 a7 a8 a9 a10 a11 a12 b0 b1 b2 b3 b4 b5 b6 b7 b8 b9 b10 b11 b12
              generalize w3.drew = wd2 at X3 ⊢
              go_upto_region 12 with (go_at_call 15; ((with_reducible refine (DB.out _).mono ?_); rintro e w4 ⟨rfl, hb⟩; have X4 := Lib.hid (X3.out.trans (hb.mono X3.out.size)); obtain ⟨a0, a1, a2, a3, a4, a5, a6, a7, a8, a9, a10, a11, a12⟩ := AT.out w4 X4.out i a HAL.out; obtain ⟨b0, b1, b2, b3, b4, b5, b6, b7, b8, b9, b10, b11, b12⟩ := AT.out w4 X4.out k b HBL.out; clear hb))
              go_quiet (fail)
              clear a0 a1 a2 a3 a4 a5 a6 a7 a8 a9 a10 a11 a12 b0 b1 b2 b3 b4 b5 b6 b7 b8 b9 b10 b11 b12
              go_wp2
              go_loopw [8] (fun v wr => ∃ j : Nat, j ≤ n ∧ v = .int .i64 j ∧ Below w.heap.size w wr) (fun v _ => n - (intOf v).toNat)
              case atStart => exact ⟨0, Nat.zero_le _, rfl, below_drewN X4.out _⟩
              case round =>
                obtain ⟨j, hj, rfl, hb3⟩ := hrel
                have HE := Lib.hid hb3
                clear hb3
                by_cases hlj : j < n
                · have j0 : (0 : Int) ≤ (j : Int) := by omega
                  have j1 : (j : Int) < (n : Int) := by omega
                  have n5 : IntKind.i64.wrap ((j : Int) + 1) = (j : Int) + 1 := by rw [IntKind.wrap_i64] <;> omega
                  go_wp2
                  go_quiet (fail)
                  go_wp2
                  first
                    | (refine ⟨⟨j + 1, by omega, by go_num, below_drewN HE.out _⟩, by simp [intOf]; omega⟩)
                    | (go_roundw
                       case rel => exact ⟨j + 1, by omega, by go_num, below_drewN HE.out _⟩
                       case measure => simp [intOf]; omega)
                · go_wp2
                  first
                    | (refine ⟨⟨k + 1, by omega, by go_num, HE.out⟩, by simp [intOf]; omega⟩)
                    | (go_roundw
                       case rel => exact ⟨k + 1, by omega, by go_num, HE.out⟩
                       case measure => simp [intOf]; omega)
        · go_wp2
          go_roundw
          case rel => exact ⟨i + 1, by omega, by go_num, HC.out⟩
          case measure => simp [intOf]; omega
    · go_wp2
      go_ret
      exact ⟨rfl, HB.out⟩
set_option maxRecDepth 100000 in
theorem order_long (A : Option Addr) (c n : Nat) (w : World) (h : 12 < n) :
    Calls Try.prog 4 #[.slice A n c] w fun e w' => e = .returned (.bool true) ∧ Below w.heap.size w w' := by
  have D1 := Lib.hid (shown_any w)
  have d1 : decide ((12 : Int) < (n : Int)) = true := by simp; omega
  have d2 : decide (12 < n) = true := by simp; omega
  go_enter Try.func4, Try.ntmps4
  go_wp2_with (go_at_call 8; ((with_reducible refine D1.out.mono ?_); rintro e w1 ⟨rfl, hb⟩; have H1 := Lib.hid hb; clear hb))
  go_ret
  exact ⟨rfl, H1.out⟩
set_option maxRecDepth 100000 in
theorem order_wrong (A : Option Addr) (c n : Nat) (l : List Cl) (w : World) (hn : n = l.length) (hl : Cls w A l) (h12 : n ≤ 12) (hr : rightB l = false) :
    Calls Try.prog 4 #[.slice A n c] w fun e w' => e = .returned (.bool true) ∧ Below w.heap.size w w' := by
  have D1 := Lib.hid (shown_any w)
  have HR : Hid (∀ W, Below w.heap.size w W → Calls Try.prog 9 #[.slice A n c] W fun e w' => e = .returned (.bool false) ∧ Below W.heap.size W w') := Lib.hid (fun W hW => by have := refRight_any A c n l W hn (hl.below hW (Nat.le_refl _)) (by omega); rw [hr] at this; exact this)
  have d1 : decide ((12 : Int) < (n : Int)) = false := by simp; omega
  have d2 : decide (12 < n) = false := by simp; omega
  clear hn hl hr
  go_enter Try.func4, Try.ntmps4
  go_wp2_with (first
    | (go_at_call 8; ((with_reducible refine D1.out.mono ?_); rintro e w1 ⟨rfl, hb⟩; have H1 := Lib.hid hb; have D2 := Lib.hid (HR.out _ hb); clear hb))
    | (go_at_call 9; ((with_reducible refine D2.out.mono ?_); rintro e w2 ⟨rfl, hb⟩; have H2 := Lib.hid (H1.out.trans (hb.mono H1.out.size)); clear hb)))
  go_ret
  exact ⟨rfl, H2.out⟩
theorem order_any (A : Option Addr) (c n : Nat) (l : List Cl) (w : World) (hn : n = l.length) (hl : Cls w A l) :
    Calls Try.prog 4 #[.slice A n c] w fun e w' => e = .returned (.bool true) ∧ Below w.heap.size w w' := by
  by_cases h : 12 < n
  · exact order_long A c n w h
  have h12 : n ≤ 12 := by omega
  cases hr : rightB l
  · exact order_wrong A c n l w hn hl h12 hr
  · exact order_full A c n l w hn hl h12 hr
end Go.Proofs.Ythepgdfhdkhhbaa
