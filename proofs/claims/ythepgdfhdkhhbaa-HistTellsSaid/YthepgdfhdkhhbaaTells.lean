/- HistTells: the walk. -/
import Derived.Test.YthepgdfhdkhhbaaAlike
import Derived.Test.YthepgdfhdkhhbaaRefPoints
import Derived.Test.YthepgdfhdkhhbaaShown
import Derived.Test.YthepgdfhdkhhbaaOpen
namespace Go.Proofs.Ythepgdfhdkhhbaa
open Go.RowKit Aid
set_option maxRecDepth 100000 in
theorem tells_long (A : Option Addr) (c n : Nat) (w : World) (h : 12 < n) :
    Calls Try.prog 3 #[.slice A n c] w fun e w' => e = .returned (.bool true) ∧ Below w.heap.size w w' := by
  have D1 := Lib.hid (shown_any w)
  have d1 : decide ((12 : Int) < (n : Int)) = true := by simp; omega
  have d2 : decide (12 < n) = true := by simp; omega
  go_enter Try.func3, Try.ntmps3
  go_wp2_with (go_at_call 8; ((with_reducible refine D1.out.mono ?_); rintro e w1 ⟨rfl, hb⟩; have H1 := Lib.hid hb; clear hb))
  go_ret
  exact ⟨rfl, H1.out⟩
set_option maxHeartbeats 16000000 in
set_option maxRecDepth 100000 in
theorem tells_wrong (A : Option Addr) (c n : Nat) (l : List Cl) (w : World) (hn : n = l.length) (hl : Cls w A l) (hc : n ≤ c) (hc2 : c ≤ 9223372036854775807) (h12 : n ≤ 12) (hr : rightB l = false) (hf : ∀ a ∈ l, a.list.length ≤ 9223372036854775807) :
    Calls Try.prog 3 #[.slice A n c] w fun e w' => e = .returned (.bool true) ∧ Below w.heap.size w w' := by
  have HN := Lib.hid hn
  have HL := Lib.hid hl
  have HF := Lib.hid hf
  have D1 := Lib.hid (shown_any w)
  have HR : Hid (∀ W, Below w.heap.size w W → Calls Try.prog 9 #[.slice A n c] W fun e w' => e = .returned (.bool false) ∧ Below W.heap.size W w') := Lib.hid (fun W hW => by have := refRight_any A c n l W hn (hl.below hW (Nat.le_refl _)) (by omega); rw [hr] at this; exact this)
  have HQ : Hid (∀ W, Below w.heap.size w W → Calls Try.prog 10 #[.slice A n c] W fun e w' => e = .returned (.bool false) ∧ Below W.heap.size W w') := Lib.hid (fun W hW => by have := right_any A c n l W hn (hl.below hW (Nat.le_refl _)) (by omega) hc hc2; rw [hr] at this; exact this)
  have d1 : decide ((12 : Int) < (n : Int)) = false := by simp; omega
  have d2 : decide (12 < n) = false := by simp; omega
  clear hn hl hr hf
  go_enter Try.func3, Try.ntmps3
  go_wp2_with (go_at_call 8; ((with_reducible refine D1.out.mono ?_); rintro e w1 ⟨rfl, hb⟩; have H1 := Lib.hid hb; clear hb))
  go_loopw [4] (fun v wr => ∃ i : Nat, i ≤ n ∧ v = .int .i64 i ∧ wr = w1) (fun v _ => n - (intOf v).toNat)
  case atStart => exact ⟨0, Nat.zero_le _, rfl, rfl⟩
  case round =>
    obtain ⟨i, hi, rfl, rfl⟩ := hrel
    by_cases hlt : i < n
    · have i0 : (0 : Int) ≤ (i : Int) := by omega
      have i1 : (i : Int) < (n : Int) := by omega
      have n3 : IntKind.i64.wrap ((i : Int) + 1) = (i : Int) + 1 := by rw [IntKind.wrap_i64] <;> omega
      obtain ⟨a, hal⟩ : ∃ a, l[i]? = some a := ⟨l[i]'(by rw [← HN.out]; exact hlt), List.getElem?_eq_getElem _⟩
      obtain ⟨p, off, hA, hat⟩ := (HL.out.below H1.out (Nat.le_refl _)).get hal
      obtain ⟨c0, c1, c2, c3, c4, c5, c6, c7, c8, c9, c10, c11, c12⟩ := hat
      subst hA
      clear hal
      by_cases h13 : 12 < a.list.length
      · have t1 : decide ((12 : Int) < (a.list.length : Int)) = true := by simp; omega
        have t2 : decide (12 < a.list.length) = true := by simp; omega
        go_wp2
        go_ret
        exact ⟨rfl, H1.out⟩
      · have t1 : decide ((12 : Int) < (a.list.length : Int)) = false := by simp; omega
        have t2 : decide (12 < a.list.length) = false := by simp; omega
        go_wp2
        go_roundw
        case rel => exact ⟨i + 1, by omega, by go_num, by first | rfl | trivial⟩
        case measure => simp [intOf]; omega
    · obtain rfl : i = n := by omega
      have D2 := Lib.hid (HR.out _ H1.out)
      go_wp2_with (first
        | (go_at_call 9; ((with_reducible refine D2.out.mono ?_); rintro e w2 ⟨rfl, hb⟩; have H2 := Lib.hid (H1.out.trans (hb.mono H1.out.size)); have D3 := Lib.hid (HQ.out _ H2.out); clear hb))
        | (go_at_call 10; ((with_reducible refine D3.out.mono ?_); rintro e w3 ⟨rfl, hb⟩; have H3 := Lib.hid (H2.out.trans (hb.mono H2.out.size)); clear hb)))
      go_loopw [6] (fun v wr => ∃ j : Nat, j ≤ i ∧ v = .int .i64 j ∧ Below w.heap.size w wr) (fun v _ => i - (intOf v).toNat)
      case atStart => exact ⟨0, Nat.zero_le _, rfl, H3.out⟩
      case round =>
        clear d1 d2 hi hlt D1 D2 D3 HR HQ H2 H3
        obtain ⟨n, hn⟩ : ∃ n, n = i := ⟨_, rfl⟩
        subst hn
        obtain ⟨i, hi, rfl, hb⟩ := hrel
        have HB := Lib.hid hb
        clear hb
        obtain ⟨w0, hw0⟩ : ∃ w0, w0 = wr := ⟨_, rfl⟩
        subst hw0
        by_cases hlt : i < n
        · have i0 : (0 : Int) ≤ (i : Int) := by omega
          have i1 : (i : Int) < (n : Int) := by omega
          have n3 : IntKind.i64.wrap ((i : Int) + 1) = (i : Int) + 1 := by rw [IntKind.wrap_i64] <;> omega
          obtain ⟨a, hal⟩ : ∃ a, l[i]? = some a := ⟨l[i]'(by rw [← HN.out]; exact hlt), List.getElem?_eq_getElem _⟩
          obtain ⟨p, off, hA, _⟩ := HL.out.get hal
          subst hA
          have AT : Hid (∀ W j x, l[j]? = some x → Below w.heap.size w W → At W p (off + j * 13) x) := Lib.hid fun W j x hx hW => by
            obtain ⟨p', o', hA, h⟩ := (HL.out.below hW (Nat.le_refl _)).get hx
            cases hA; exact h
          have KK : Hid (∀ W W', (W.cell? ⟨p, off + i * 13, none⟩ = some (.int .i64 a.me) ∧ W.cell? ⟨p, off + i * 13 + 1, none⟩ = some (.int .i64 a.k) ∧ W.cell? ⟨p, off + i * 13 + 2, none⟩ = some (.int .i64 a.u) ∧ W.cell? ⟨p, off + i * 13 + 3, none⟩ = some (.int .i64 a.v) ∧ W.cell? ⟨p, off + i * 13 + 4, none⟩ = some (.int .u64 a.x) ∧ W.cell? ⟨p, off + i * 13 + 5, none⟩ = some (.int .i64 a.era) ∧ W.cell? ⟨p, off + i * 13 + 6, none⟩ = some (.int .i64 a.fr) ∧ W.cell? ⟨p, off + i * 13 + 7, none⟩ = some (.int .i64 a.to) ∧ W.cell? ⟨p, off + i * 13 + 8, none⟩ = some (.int .i64 a.err) ∧ W.cell? ⟨p, off + i * 13 + 9, none⟩ = some (.bool a.is) ∧ W.cell? ⟨p, off + i * 13 + 10, none⟩ = some (.int .i64 a.n) ∧ W.cell? ⟨p, off + i * 13 + 11, none⟩ = some (.int .u64 a.w) ∧ W.cell? ⟨p, off + i * 13 + 12, none⟩ = some (.slice a.A a.list.length a.cap) ∧ Below w.heap.size w W) → Below W.heap.size W W' → W'.cell? ⟨p, off + i * 13, none⟩ = some (.int .i64 a.me) ∧ W'.cell? ⟨p, off + i * 13 + 1, none⟩ = some (.int .i64 a.k) ∧ W'.cell? ⟨p, off + i * 13 + 2, none⟩ = some (.int .i64 a.u) ∧ W'.cell? ⟨p, off + i * 13 + 3, none⟩ = some (.int .i64 a.v) ∧ W'.cell? ⟨p, off + i * 13 + 4, none⟩ = some (.int .u64 a.x) ∧ W'.cell? ⟨p, off + i * 13 + 5, none⟩ = some (.int .i64 a.era) ∧ W'.cell? ⟨p, off + i * 13 + 6, none⟩ = some (.int .i64 a.fr) ∧ W'.cell? ⟨p, off + i * 13 + 7, none⟩ = some (.int .i64 a.to) ∧ W'.cell? ⟨p, off + i * 13 + 8, none⟩ = some (.int .i64 a.err) ∧ W'.cell? ⟨p, off + i * 13 + 9, none⟩ = some (.bool a.is) ∧ W'.cell? ⟨p, off + i * 13 + 10, none⟩ = some (.int .i64 a.n) ∧ W'.cell? ⟨p, off + i * 13 + 11, none⟩ = some (.int .u64 a.w) ∧ W'.cell? ⟨p, off + i * 13 + 12, none⟩ = some (.slice a.A a.list.length a.cap) ∧ Below w.heap.size w W') := Lib.hid fun W W' h hW => by
            obtain ⟨x0, x1, x2, x3, x4, x5, x6, x7, x8, x9, x10, x11, x12, hw⟩ := h
            have hw' := hw.trans (hW.mono hw.size)
            obtain ⟨y0, y1, y2, y3, y4, y5, y6, y7, y8, y9, y10, y11, y12⟩ := AT.out W' i a hal hw'
            exact ⟨y0, y1, y2, y3, y4, y5, y6, y7, y8, y9, y10, y11, y12, hw'⟩
          have SS : Hid (w0.drew.cell? ⟨p, off + i * 13, none⟩ = some (.int .i64 a.me) ∧ w0.drew.cell? ⟨p, off + i * 13 + 1, none⟩ = some (.int .i64 a.k) ∧ w0.drew.cell? ⟨p, off + i * 13 + 2, none⟩ = some (.int .i64 a.u) ∧ w0.drew.cell? ⟨p, off + i * 13 + 3, none⟩ = some (.int .i64 a.v) ∧ w0.drew.cell? ⟨p, off + i * 13 + 4, none⟩ = some (.int .u64 a.x) ∧ w0.drew.cell? ⟨p, off + i * 13 + 5, none⟩ = some (.int .i64 a.era) ∧ w0.drew.cell? ⟨p, off + i * 13 + 6, none⟩ = some (.int .i64 a.fr) ∧ w0.drew.cell? ⟨p, off + i * 13 + 7, none⟩ = some (.int .i64 a.to) ∧ w0.drew.cell? ⟨p, off + i * 13 + 8, none⟩ = some (.int .i64 a.err) ∧ w0.drew.cell? ⟨p, off + i * 13 + 9, none⟩ = some (.bool a.is) ∧ w0.drew.cell? ⟨p, off + i * 13 + 10, none⟩ = some (.int .i64 a.n) ∧ w0.drew.cell? ⟨p, off + i * 13 + 11, none⟩ = some (.int .u64 a.w) ∧ w0.drew.cell? ⟨p, off + i * 13 + 12, none⟩ = some (.slice a.A a.list.length a.cap) ∧ Below w.heap.size w w0.drew) := Lib.hid (by
            obtain ⟨y0, y1, y2, y3, y4, y5, y6, y7, y8, y9, y10, y11, y12⟩ := AT.out w0.drew i a hal HB.out.drew
            exact ⟨y0, y1, y2, y3, y4, y5, y6, y7, y8, y9, y10, y11, y12, HB.out.drew⟩)
          have DA : Hid (∀ W, Calls Try.prog 11 #[a.val] W fun e w' => e = .returned (.bool (openB a)) ∧ Below W.heap.size W w') := Lib.hid fun W => open_any a W
          have DB : Hid (∀ W, Calls Try.prog 12 #[a.val] W fun e w' => e = .returned (.bool (openB a)) ∧ Below W.heap.size W w') := Lib.hid fun W => rOpen_any a W
          have DC : Hid (∀ W, Calls Try.prog 13 #[a.val] W fun e w' => e = .returned (.bool (idleB a)) ∧ Below W.heap.size W w') := Lib.hid fun W => idle_any a W
          have DD : Hid (∀ W, Calls Try.prog 14 #[a.val] W fun e w' => e = .returned (.bool (idleB a)) ∧ Below W.heap.size W w') := Lib.hid fun W => rIdle_any a W
          generalize openB a = ob at DA DB
          generalize idleB a = ib at DC DD
          unfold Cl.val at DA DB DC DD
          have g1 : (ob != ob) = false := by simp
          have g2 : (ib != ib) = false := by simp
          have HAL := Lib.hid hal
          clear hal
          go_wp2
          go_region_held3 (fun w' => w'.cell? ⟨p, off + i * 13, none⟩ = some (.int .i64 a.me) ∧ w'.cell? ⟨p, off + i * 13 + 1, none⟩ = some (.int .i64 a.k) ∧ w'.cell? ⟨p, off + i * 13 + 2, none⟩ = some (.int .i64 a.u) ∧ w'.cell? ⟨p, off + i * 13 + 3, none⟩ = some (.int .i64 a.v) ∧ w'.cell? ⟨p, off + i * 13 + 4, none⟩ = some (.int .u64 a.x) ∧ w'.cell? ⟨p, off + i * 13 + 5, none⟩ = some (.int .i64 a.era) ∧ w'.cell? ⟨p, off + i * 13 + 6, none⟩ = some (.int .i64 a.fr) ∧ w'.cell? ⟨p, off + i * 13 + 7, none⟩ = some (.int .i64 a.to) ∧ w'.cell? ⟨p, off + i * 13 + 8, none⟩ = some (.int .i64 a.err) ∧ w'.cell? ⟨p, off + i * 13 + 9, none⟩ = some (.bool a.is) ∧ w'.cell? ⟨p, off + i * 13 + 10, none⟩ = some (.int .i64 a.n) ∧ w'.cell? ⟨p, off + i * 13 + 11, none⟩ = some (.int .u64 a.w) ∧ w'.cell? ⟨p, off + i * 13 + 12, none⟩ = some (.slice a.A a.list.length a.cap) ∧ Below w.heap.size w w')
            (first | exact SS.out | assumption | exact KK.out _ _ (by assumption) (by assumption))
            (first | (go_at_call 11; ((with_reducible refine (DA.out _).mono ?_); rintro e wa ⟨rfl, hb1⟩)) | (go_at_call 12; ((with_reducible refine (DB.out _).mono ?_); rintro e wb ⟨rfl, hb2⟩)) | (go_at_call 13; ((with_reducible refine (DC.out _).mono ?_); rintro e wc ⟨rfl, hb3⟩)) | (go_at_call 14; ((with_reducible refine (DD.out _).mono ?_); rintro e wd ⟨rfl, hb4⟩)))
          have DR := Lib.hid HB.out.drew
          have H0 := Lib.hid (DR.out.trans (hb1.mono DR.out.size))
          have H4 := Lib.hid (H0.out.trans (hb2.mono H0.out.size))
          have H6 := Lib.hid (H4.out.trans (hb3.mono H4.out.size))
          have HD := Lib.hid (H6.out.trans (hb4.mono H6.out.size))
          clear hb1 hb2 hb3 hb4 DA DB DC DD KK SS H0 H4 H6 DR g1 g2
          go_wp2
          go_loopw [7] (fun v wr => v = .int .i64 0 ∧ wr = wd) (fun _ _ => 0)
          case atStart => exact ⟨rfl, rfl⟩
          case round =>
            obtain ⟨rfl, rfl⟩ := hrel
            go_wp2
            go_roundw
            case rel => exact ⟨i + 1, by omega, by go_num, HD.out⟩
            case measure => simp [intOf]; omega
        · obtain rfl : i = n := by omega
          go_wp2
          go_ret
          exact ⟨rfl, HB.out⟩
set_option maxHeartbeats 16000000 in
set_option maxRecDepth 100000 in
theorem tells_right (A : Option Addr) (c n : Nat) (l : List Cl) (w : World) (hn : n = l.length) (hl : Cls w A l) (hc : n ≤ c) (hc2 : c ≤ 9223372036854775807) (h12 : n ≤ 12) (hr : rightB l = true) (hf : ∀ a ∈ l, a.list.length ≤ 9223372036854775807) :
    Calls Try.prog 3 #[.slice A n c] w fun e w' => e = .returned (.bool true) ∧ Below w.heap.size w w' := by
  have HN := Lib.hid hn
  have HL := Lib.hid hl
  have HF := Lib.hid hf
  have D1 := Lib.hid (shown_any w)
  have HR : Hid (∀ W, Below w.heap.size w W → Calls Try.prog 9 #[.slice A n c] W fun e w' => e = .returned (.bool true) ∧ Below W.heap.size W w') := Lib.hid (fun W hW => by have := refRight_any A c n l W hn (hl.below hW (Nat.le_refl _)) (by omega); rw [hr] at this; exact this)
  have HQ : Hid (∀ W, Below w.heap.size w W → Calls Try.prog 10 #[.slice A n c] W fun e w' => e = .returned (.bool true) ∧ Below W.heap.size W w') := Lib.hid (fun W hW => by have := right_any A c n l W hn (hl.below hW (Nat.le_refl _)) (by omega) hc hc2; rw [hr] at this; exact this)
  have HK : Hid (∀ W, Below w.heap.size w W → Calls Try.prog 17 #[.slice A n c] W fun e w' => ∃ B d, e = .returned (.slice B (keysOf l).length d) ∧ Sl w' B ((keysOf l).map (Value.int .i64)) ∧ Below W.heap.size W w') := Lib.hid fun W hW => (keys_any A c n l W hn (hl.below hW (Nat.le_refl _)) (by omega)).mono fun e w' ⟨B, d, h1, h2, h3⟩ => ⟨B, d, h1, own_sl h2, h3⟩
  have HJ : Hid (∀ W, Below w.heap.size w W → Calls Try.prog 18 #[.slice A n c] W fun e w' => ∃ B d, e = .returned (.slice B (keysOf l).length d) ∧ Sl w' B ((keysOf l).map (Value.int .i64)) ∧ Below W.heap.size W w') := Lib.hid fun W hW => rKeys_any A c n l W hn (hl.below hW (Nat.le_refl _)) (by omega)
  have HI : Hid (∀ W, Below w.heap.size w W → Calls Try.prog 19 #[.slice A n c] W fun e w' => e = .returned (.bool (!l.any (notListed (keysOf l)))) ∧ Below W.heap.size W w') := Lib.hid fun W hW => listedH_any A c n l W hn (hl.below hW (Nat.le_refl _)) (by omega) hf
  have HH : Hid (∀ W, Below w.heap.size w W → Calls Try.prog 20 #[.slice A n c] W fun e w' => e = .returned (.bool (!l.any (notListed (keysOf l)))) ∧ Below W.heap.size W w') := Lib.hid fun W hW => rListed_any A c n l W hn (hl.below hW (Nat.le_refl _)) (by omega) hf
  have HP : Hid (∀ W, Below w.heap.size w W → Calls Try.prog 22 #[.slice A n c] W fun e w' => ∃ B d, e = .returned (.slice B (pointsOf l).length d) ∧ Sl w' B (flat (pointsOf l)) ∧ Below W.heap.size W w') := Lib.hid fun W hW => points_any A c n l W hn (hl.below hW (Nat.le_refl _)) (by omega) hf
  have HO : Hid (∀ W, Below w.heap.size w W → Calls Try.prog 23 #[.slice A n c] W fun e w' => ∃ B d, e = .returned (.slice B (pointsOf l).length d) ∧ Sl w' B (flat (pointsOf l)) ∧ Below W.heap.size W w') := Lib.hid fun W hW => rPoints_any A c n l W hn (hl.below hW (Nat.le_refl _)) (by omega) hf
  have PB : (pointsOf l).length ≤ 1000000 := by
    have h1 : (pointsOf l).length ≤ l.length * ((keysOf l).length + 1) := points_le _ _
    have h2 := keys_len l
    have h3 : l.length * ((keysOf l).length + 1) ≤ 12 * 25 := Nat.mul_le_mul (by omega) (by omega)
    omega
  have KB : (keysOf l).length ≤ 24 := by have h2 := keys_len l; omega
  generalize pointsOf l = ps at HP HO PB
  generalize (!l.any (notListed (keysOf l))) = lb at HI HH
  generalize keysOf l = keys at HK HJ KB
  have g10 : (lb == lb) = true := by simp
  have d1 : decide ((12 : Int) < (n : Int)) = false := by simp; omega
  have d2 : decide (12 < n) = false := by simp; omega
  clear hn hl hr hf
  go_enter Try.func3, Try.ntmps3
  go_wp2_with (go_at_call 8; ((with_reducible refine D1.out.mono ?_); rintro e w1 ⟨rfl, hb⟩; have H1 := Lib.hid hb; clear hb))
  go_loopw [4] (fun v wr => ∃ i : Nat, i ≤ n ∧ v = .int .i64 i ∧ wr = w1) (fun v _ => n - (intOf v).toNat)
  case atStart => exact ⟨0, Nat.zero_le _, rfl, rfl⟩
  case round =>
    obtain ⟨i, hi, rfl, rfl⟩ := hrel
    by_cases hlt : i < n
    · have i0 : (0 : Int) ≤ (i : Int) := by omega
      have i1 : (i : Int) < (n : Int) := by omega
      have n3 : IntKind.i64.wrap ((i : Int) + 1) = (i : Int) + 1 := by rw [IntKind.wrap_i64] <;> omega
      obtain ⟨a, hal⟩ : ∃ a, l[i]? = some a := ⟨l[i]'(by rw [← HN.out]; exact hlt), List.getElem?_eq_getElem _⟩
      obtain ⟨p, off, hA, hat⟩ := (HL.out.below H1.out (Nat.le_refl _)).get hal
      obtain ⟨c0, c1, c2, c3, c4, c5, c6, c7, c8, c9, c10, c11, c12⟩ := hat
      subst hA
      clear hal
      by_cases h13 : 12 < a.list.length
      · have t1 : decide ((12 : Int) < (a.list.length : Int)) = true := by simp; omega
        have t2 : decide (12 < a.list.length) = true := by simp; omega
        go_wp2
        go_ret
        exact ⟨rfl, H1.out⟩
      · have t1 : decide ((12 : Int) < (a.list.length : Int)) = false := by simp; omega
        have t2 : decide (12 < a.list.length) = false := by simp; omega
        go_wp2
        go_roundw
        case rel => exact ⟨i + 1, by omega, by go_num, by first | rfl | trivial⟩
        case measure => simp [intOf]; omega
    · obtain rfl : i = n := by omega
      have D2 := Lib.hid (HR.out _ H1.out)
      go_wp2_with (first
        | (go_at_call 9; ((with_reducible refine D2.out.mono ?_); rintro e w2 ⟨rfl, hb⟩; have H2 := Lib.hid (H1.out.trans (hb.mono H1.out.size)); have D3 := Lib.hid (HQ.out _ H2.out); clear hb))
        | (go_at_call 10; ((with_reducible refine D3.out.mono ?_); rintro e w3 ⟨rfl, hb⟩; have H3 := Lib.hid (H2.out.trans (hb.mono H2.out.size)); clear hb)))
      go_loopw [6] (fun v wr => ∃ j : Nat, j ≤ i ∧ v = .int .i64 j ∧ Below w.heap.size w wr) (fun v _ => i - (intOf v).toNat)
      case atStart => exact ⟨0, Nat.zero_le _, rfl, H3.out⟩
      case round =>
        clear d1 d2 hi hlt D1 D2 D3 HR HQ H2 H3
        obtain ⟨n, hn⟩ : ∃ n, n = i := ⟨_, rfl⟩
        subst hn
        obtain ⟨i, hi, rfl, hb⟩ := hrel
        have HB := Lib.hid hb
        clear hb
        obtain ⟨w0, hw0⟩ : ∃ w0, w0 = wr := ⟨_, rfl⟩
        subst hw0
        by_cases hlt : i < n
        · have i0 : (0 : Int) ≤ (i : Int) := by omega
          have i1 : (i : Int) < (n : Int) := by omega
          have n3 : IntKind.i64.wrap ((i : Int) + 1) = (i : Int) + 1 := by rw [IntKind.wrap_i64] <;> omega
          obtain ⟨a, hal⟩ : ∃ a, l[i]? = some a := ⟨l[i]'(by rw [← HN.out]; exact hlt), List.getElem?_eq_getElem _⟩
          obtain ⟨p, off, hA, _⟩ := HL.out.get hal
          subst hA
          have AT : Hid (∀ W j x, l[j]? = some x → Below w.heap.size w W → At W p (off + j * 13) x) := Lib.hid fun W j x hx hW => by
            obtain ⟨p', o', hA, h⟩ := (HL.out.below hW (Nat.le_refl _)).get hx
            cases hA; exact h
          have KK : Hid (∀ W W', (W.cell? ⟨p, off + i * 13, none⟩ = some (.int .i64 a.me) ∧ W.cell? ⟨p, off + i * 13 + 1, none⟩ = some (.int .i64 a.k) ∧ W.cell? ⟨p, off + i * 13 + 2, none⟩ = some (.int .i64 a.u) ∧ W.cell? ⟨p, off + i * 13 + 3, none⟩ = some (.int .i64 a.v) ∧ W.cell? ⟨p, off + i * 13 + 4, none⟩ = some (.int .u64 a.x) ∧ W.cell? ⟨p, off + i * 13 + 5, none⟩ = some (.int .i64 a.era) ∧ W.cell? ⟨p, off + i * 13 + 6, none⟩ = some (.int .i64 a.fr) ∧ W.cell? ⟨p, off + i * 13 + 7, none⟩ = some (.int .i64 a.to) ∧ W.cell? ⟨p, off + i * 13 + 8, none⟩ = some (.int .i64 a.err) ∧ W.cell? ⟨p, off + i * 13 + 9, none⟩ = some (.bool a.is) ∧ W.cell? ⟨p, off + i * 13 + 10, none⟩ = some (.int .i64 a.n) ∧ W.cell? ⟨p, off + i * 13 + 11, none⟩ = some (.int .u64 a.w) ∧ W.cell? ⟨p, off + i * 13 + 12, none⟩ = some (.slice a.A a.list.length a.cap) ∧ Below w.heap.size w W) → Below W.heap.size W W' → W'.cell? ⟨p, off + i * 13, none⟩ = some (.int .i64 a.me) ∧ W'.cell? ⟨p, off + i * 13 + 1, none⟩ = some (.int .i64 a.k) ∧ W'.cell? ⟨p, off + i * 13 + 2, none⟩ = some (.int .i64 a.u) ∧ W'.cell? ⟨p, off + i * 13 + 3, none⟩ = some (.int .i64 a.v) ∧ W'.cell? ⟨p, off + i * 13 + 4, none⟩ = some (.int .u64 a.x) ∧ W'.cell? ⟨p, off + i * 13 + 5, none⟩ = some (.int .i64 a.era) ∧ W'.cell? ⟨p, off + i * 13 + 6, none⟩ = some (.int .i64 a.fr) ∧ W'.cell? ⟨p, off + i * 13 + 7, none⟩ = some (.int .i64 a.to) ∧ W'.cell? ⟨p, off + i * 13 + 8, none⟩ = some (.int .i64 a.err) ∧ W'.cell? ⟨p, off + i * 13 + 9, none⟩ = some (.bool a.is) ∧ W'.cell? ⟨p, off + i * 13 + 10, none⟩ = some (.int .i64 a.n) ∧ W'.cell? ⟨p, off + i * 13 + 11, none⟩ = some (.int .u64 a.w) ∧ W'.cell? ⟨p, off + i * 13 + 12, none⟩ = some (.slice a.A a.list.length a.cap) ∧ Below w.heap.size w W') := Lib.hid fun W W' h hW => by
            obtain ⟨x0, x1, x2, x3, x4, x5, x6, x7, x8, x9, x10, x11, x12, hw⟩ := h
            have hw' := hw.trans (hW.mono hw.size)
            obtain ⟨y0, y1, y2, y3, y4, y5, y6, y7, y8, y9, y10, y11, y12⟩ := AT.out W' i a hal hw'
            exact ⟨y0, y1, y2, y3, y4, y5, y6, y7, y8, y9, y10, y11, y12, hw'⟩
          have SS : Hid (w0.drew.cell? ⟨p, off + i * 13, none⟩ = some (.int .i64 a.me) ∧ w0.drew.cell? ⟨p, off + i * 13 + 1, none⟩ = some (.int .i64 a.k) ∧ w0.drew.cell? ⟨p, off + i * 13 + 2, none⟩ = some (.int .i64 a.u) ∧ w0.drew.cell? ⟨p, off + i * 13 + 3, none⟩ = some (.int .i64 a.v) ∧ w0.drew.cell? ⟨p, off + i * 13 + 4, none⟩ = some (.int .u64 a.x) ∧ w0.drew.cell? ⟨p, off + i * 13 + 5, none⟩ = some (.int .i64 a.era) ∧ w0.drew.cell? ⟨p, off + i * 13 + 6, none⟩ = some (.int .i64 a.fr) ∧ w0.drew.cell? ⟨p, off + i * 13 + 7, none⟩ = some (.int .i64 a.to) ∧ w0.drew.cell? ⟨p, off + i * 13 + 8, none⟩ = some (.int .i64 a.err) ∧ w0.drew.cell? ⟨p, off + i * 13 + 9, none⟩ = some (.bool a.is) ∧ w0.drew.cell? ⟨p, off + i * 13 + 10, none⟩ = some (.int .i64 a.n) ∧ w0.drew.cell? ⟨p, off + i * 13 + 11, none⟩ = some (.int .u64 a.w) ∧ w0.drew.cell? ⟨p, off + i * 13 + 12, none⟩ = some (.slice a.A a.list.length a.cap) ∧ Below w.heap.size w w0.drew) := Lib.hid (by
            obtain ⟨y0, y1, y2, y3, y4, y5, y6, y7, y8, y9, y10, y11, y12⟩ := AT.out w0.drew i a hal HB.out.drew
            exact ⟨y0, y1, y2, y3, y4, y5, y6, y7, y8, y9, y10, y11, y12, HB.out.drew⟩)
          have DA : Hid (∀ W, Calls Try.prog 11 #[a.val] W fun e w' => e = .returned (.bool (openB a)) ∧ Below W.heap.size W w') := Lib.hid fun W => open_any a W
          have DB : Hid (∀ W, Calls Try.prog 12 #[a.val] W fun e w' => e = .returned (.bool (openB a)) ∧ Below W.heap.size W w') := Lib.hid fun W => rOpen_any a W
          have DC : Hid (∀ W, Calls Try.prog 13 #[a.val] W fun e w' => e = .returned (.bool (idleB a)) ∧ Below W.heap.size W w') := Lib.hid fun W => idle_any a W
          have DD : Hid (∀ W, Calls Try.prog 14 #[a.val] W fun e w' => e = .returned (.bool (idleB a)) ∧ Below W.heap.size W w') := Lib.hid fun W => rIdle_any a W
          generalize openB a = ob at DA DB
          generalize idleB a = ib at DC DD
          unfold Cl.val at DA DB DC DD
          have g1 : (ob != ob) = false := by simp
          have g2 : (ib != ib) = false := by simp
          have HAL := Lib.hid hal
          clear hal
          go_wp2
          go_region_held3 (fun w' => w'.cell? ⟨p, off + i * 13, none⟩ = some (.int .i64 a.me) ∧ w'.cell? ⟨p, off + i * 13 + 1, none⟩ = some (.int .i64 a.k) ∧ w'.cell? ⟨p, off + i * 13 + 2, none⟩ = some (.int .i64 a.u) ∧ w'.cell? ⟨p, off + i * 13 + 3, none⟩ = some (.int .i64 a.v) ∧ w'.cell? ⟨p, off + i * 13 + 4, none⟩ = some (.int .u64 a.x) ∧ w'.cell? ⟨p, off + i * 13 + 5, none⟩ = some (.int .i64 a.era) ∧ w'.cell? ⟨p, off + i * 13 + 6, none⟩ = some (.int .i64 a.fr) ∧ w'.cell? ⟨p, off + i * 13 + 7, none⟩ = some (.int .i64 a.to) ∧ w'.cell? ⟨p, off + i * 13 + 8, none⟩ = some (.int .i64 a.err) ∧ w'.cell? ⟨p, off + i * 13 + 9, none⟩ = some (.bool a.is) ∧ w'.cell? ⟨p, off + i * 13 + 10, none⟩ = some (.int .i64 a.n) ∧ w'.cell? ⟨p, off + i * 13 + 11, none⟩ = some (.int .u64 a.w) ∧ w'.cell? ⟨p, off + i * 13 + 12, none⟩ = some (.slice a.A a.list.length a.cap) ∧ Below w.heap.size w w')
            (first | exact SS.out | assumption | exact KK.out _ _ (by assumption) (by assumption))
            (first | (go_at_call 11; ((with_reducible refine (DA.out _).mono ?_); rintro e wa ⟨rfl, hb1⟩)) | (go_at_call 12; ((with_reducible refine (DB.out _).mono ?_); rintro e wb ⟨rfl, hb2⟩)) | (go_at_call 13; ((with_reducible refine (DC.out _).mono ?_); rintro e wc ⟨rfl, hb3⟩)) | (go_at_call 14; ((with_reducible refine (DD.out _).mono ?_); rintro e wd ⟨rfl, hb4⟩)))
          have DR := Lib.hid HB.out.drew
          have H0 := Lib.hid (DR.out.trans (hb1.mono DR.out.size))
          have H4 := Lib.hid (H0.out.trans (hb2.mono H0.out.size))
          have H6 := Lib.hid (H4.out.trans (hb3.mono H4.out.size))
          have HD := Lib.hid (H6.out.trans (hb4.mono H6.out.size))
          clear hb1 hb2 hb3 hb4 DA DB DC DD KK SS H0 H4 H6 DR g1 g2
          go_wp2
          go_loopw [7] (fun v wr => ∃ k : Nat, k ≤ n ∧ v = .int .i64 k ∧ Below w.heap.size w wr) (fun v _ => n - (intOf v).toNat)
          case atStart => exact ⟨0, Nat.zero_le _, rfl, HD.out⟩
          case round =>
            obtain ⟨k, hk, rfl, hb⟩ := hrel
            have HE := Lib.hid hb
            clear hb
            obtain ⟨w5, hw5⟩ : ∃ w5, w5 = wr := ⟨_, rfl⟩
            subst hw5
            by_cases hlk : k < n
            · have k0 : (0 : Int) ≤ (k : Int) := by omega
              have k1 : (k : Int) < (n : Int) := by omega
              have n4 : IntKind.i64.wrap ((k : Int) + 1) = (k : Int) + 1 := by rw [IntKind.wrap_i64] <;> omega
              obtain ⟨b, hbl⟩ : ∃ b, l[k]? = some b := ⟨l[k]'(by rw [← HN.out]; exact hlk), List.getElem?_eq_getElem _⟩
              have KK : Hid (∀ W W', (W.cell? ⟨p, off + i * 13, none⟩ = some (.int .i64 a.me) ∧ W.cell? ⟨p, off + i * 13 + 1, none⟩ = some (.int .i64 a.k) ∧ W.cell? ⟨p, off + i * 13 + 2, none⟩ = some (.int .i64 a.u) ∧ W.cell? ⟨p, off + i * 13 + 3, none⟩ = some (.int .i64 a.v) ∧ W.cell? ⟨p, off + i * 13 + 4, none⟩ = some (.int .u64 a.x) ∧ W.cell? ⟨p, off + i * 13 + 5, none⟩ = some (.int .i64 a.era) ∧ W.cell? ⟨p, off + i * 13 + 6, none⟩ = some (.int .i64 a.fr) ∧ W.cell? ⟨p, off + i * 13 + 7, none⟩ = some (.int .i64 a.to) ∧ W.cell? ⟨p, off + i * 13 + 8, none⟩ = some (.int .i64 a.err) ∧ W.cell? ⟨p, off + i * 13 + 9, none⟩ = some (.bool a.is) ∧ W.cell? ⟨p, off + i * 13 + 10, none⟩ = some (.int .i64 a.n) ∧ W.cell? ⟨p, off + i * 13 + 11, none⟩ = some (.int .u64 a.w) ∧ W.cell? ⟨p, off + i * 13 + 12, none⟩ = some (.slice a.A a.list.length a.cap) ∧ W.cell? ⟨p, off + k * 13, none⟩ = some (.int .i64 b.me) ∧ W.cell? ⟨p, off + k * 13 + 1, none⟩ = some (.int .i64 b.k) ∧ W.cell? ⟨p, off + k * 13 + 2, none⟩ = some (.int .i64 b.u) ∧ W.cell? ⟨p, off + k * 13 + 3, none⟩ = some (.int .i64 b.v) ∧ W.cell? ⟨p, off + k * 13 + 4, none⟩ = some (.int .u64 b.x) ∧ W.cell? ⟨p, off + k * 13 + 5, none⟩ = some (.int .i64 b.era) ∧ W.cell? ⟨p, off + k * 13 + 6, none⟩ = some (.int .i64 b.fr) ∧ W.cell? ⟨p, off + k * 13 + 7, none⟩ = some (.int .i64 b.to) ∧ W.cell? ⟨p, off + k * 13 + 8, none⟩ = some (.int .i64 b.err) ∧ W.cell? ⟨p, off + k * 13 + 9, none⟩ = some (.bool b.is) ∧ W.cell? ⟨p, off + k * 13 + 10, none⟩ = some (.int .i64 b.n) ∧ W.cell? ⟨p, off + k * 13 + 11, none⟩ = some (.int .u64 b.w) ∧ W.cell? ⟨p, off + k * 13 + 12, none⟩ = some (.slice b.A b.list.length b.cap) ∧ Below w.heap.size w W) → Below W.heap.size W W' → W'.cell? ⟨p, off + i * 13, none⟩ = some (.int .i64 a.me) ∧ W'.cell? ⟨p, off + i * 13 + 1, none⟩ = some (.int .i64 a.k) ∧ W'.cell? ⟨p, off + i * 13 + 2, none⟩ = some (.int .i64 a.u) ∧ W'.cell? ⟨p, off + i * 13 + 3, none⟩ = some (.int .i64 a.v) ∧ W'.cell? ⟨p, off + i * 13 + 4, none⟩ = some (.int .u64 a.x) ∧ W'.cell? ⟨p, off + i * 13 + 5, none⟩ = some (.int .i64 a.era) ∧ W'.cell? ⟨p, off + i * 13 + 6, none⟩ = some (.int .i64 a.fr) ∧ W'.cell? ⟨p, off + i * 13 + 7, none⟩ = some (.int .i64 a.to) ∧ W'.cell? ⟨p, off + i * 13 + 8, none⟩ = some (.int .i64 a.err) ∧ W'.cell? ⟨p, off + i * 13 + 9, none⟩ = some (.bool a.is) ∧ W'.cell? ⟨p, off + i * 13 + 10, none⟩ = some (.int .i64 a.n) ∧ W'.cell? ⟨p, off + i * 13 + 11, none⟩ = some (.int .u64 a.w) ∧ W'.cell? ⟨p, off + i * 13 + 12, none⟩ = some (.slice a.A a.list.length a.cap) ∧ W'.cell? ⟨p, off + k * 13, none⟩ = some (.int .i64 b.me) ∧ W'.cell? ⟨p, off + k * 13 + 1, none⟩ = some (.int .i64 b.k) ∧ W'.cell? ⟨p, off + k * 13 + 2, none⟩ = some (.int .i64 b.u) ∧ W'.cell? ⟨p, off + k * 13 + 3, none⟩ = some (.int .i64 b.v) ∧ W'.cell? ⟨p, off + k * 13 + 4, none⟩ = some (.int .u64 b.x) ∧ W'.cell? ⟨p, off + k * 13 + 5, none⟩ = some (.int .i64 b.era) ∧ W'.cell? ⟨p, off + k * 13 + 6, none⟩ = some (.int .i64 b.fr) ∧ W'.cell? ⟨p, off + k * 13 + 7, none⟩ = some (.int .i64 b.to) ∧ W'.cell? ⟨p, off + k * 13 + 8, none⟩ = some (.int .i64 b.err) ∧ W'.cell? ⟨p, off + k * 13 + 9, none⟩ = some (.bool b.is) ∧ W'.cell? ⟨p, off + k * 13 + 10, none⟩ = some (.int .i64 b.n) ∧ W'.cell? ⟨p, off + k * 13 + 11, none⟩ = some (.int .u64 b.w) ∧ W'.cell? ⟨p, off + k * 13 + 12, none⟩ = some (.slice b.A b.list.length b.cap) ∧ Below w.heap.size w W') := Lib.hid fun W W' h hW => by
                obtain ⟨x0, x1, x2, x3, x4, x5, x6, x7, x8, x9, x10, x11, x12, z0, z1, z2, z3, z4, z5, z6, z7, z8, z9, z10, z11, z12, hw⟩ := h
                have hw' := hw.trans (hW.mono hw.size)
                obtain ⟨y0, y1, y2, y3, y4, y5, y6, y7, y8, y9, y10, y11, y12⟩ := AT.out W' i a HAL.out hw'
                obtain ⟨z0, z1, z2, z3, z4, z5, z6, z7, z8, z9, z10, z11, z12⟩ := AT.out W' k b hbl hw'
                exact ⟨y0, y1, y2, y3, y4, y5, y6, y7, y8, y9, y10, y11, y12, z0, z1, z2, z3, z4, z5, z6, z7, z8, z9, z10, z11, z12, hw'⟩
              have SS : Hid (w5.drew.cell? ⟨p, off + i * 13, none⟩ = some (.int .i64 a.me) ∧ w5.drew.cell? ⟨p, off + i * 13 + 1, none⟩ = some (.int .i64 a.k) ∧ w5.drew.cell? ⟨p, off + i * 13 + 2, none⟩ = some (.int .i64 a.u) ∧ w5.drew.cell? ⟨p, off + i * 13 + 3, none⟩ = some (.int .i64 a.v) ∧ w5.drew.cell? ⟨p, off + i * 13 + 4, none⟩ = some (.int .u64 a.x) ∧ w5.drew.cell? ⟨p, off + i * 13 + 5, none⟩ = some (.int .i64 a.era) ∧ w5.drew.cell? ⟨p, off + i * 13 + 6, none⟩ = some (.int .i64 a.fr) ∧ w5.drew.cell? ⟨p, off + i * 13 + 7, none⟩ = some (.int .i64 a.to) ∧ w5.drew.cell? ⟨p, off + i * 13 + 8, none⟩ = some (.int .i64 a.err) ∧ w5.drew.cell? ⟨p, off + i * 13 + 9, none⟩ = some (.bool a.is) ∧ w5.drew.cell? ⟨p, off + i * 13 + 10, none⟩ = some (.int .i64 a.n) ∧ w5.drew.cell? ⟨p, off + i * 13 + 11, none⟩ = some (.int .u64 a.w) ∧ w5.drew.cell? ⟨p, off + i * 13 + 12, none⟩ = some (.slice a.A a.list.length a.cap) ∧ w5.drew.cell? ⟨p, off + k * 13, none⟩ = some (.int .i64 b.me) ∧ w5.drew.cell? ⟨p, off + k * 13 + 1, none⟩ = some (.int .i64 b.k) ∧ w5.drew.cell? ⟨p, off + k * 13 + 2, none⟩ = some (.int .i64 b.u) ∧ w5.drew.cell? ⟨p, off + k * 13 + 3, none⟩ = some (.int .i64 b.v) ∧ w5.drew.cell? ⟨p, off + k * 13 + 4, none⟩ = some (.int .u64 b.x) ∧ w5.drew.cell? ⟨p, off + k * 13 + 5, none⟩ = some (.int .i64 b.era) ∧ w5.drew.cell? ⟨p, off + k * 13 + 6, none⟩ = some (.int .i64 b.fr) ∧ w5.drew.cell? ⟨p, off + k * 13 + 7, none⟩ = some (.int .i64 b.to) ∧ w5.drew.cell? ⟨p, off + k * 13 + 8, none⟩ = some (.int .i64 b.err) ∧ w5.drew.cell? ⟨p, off + k * 13 + 9, none⟩ = some (.bool b.is) ∧ w5.drew.cell? ⟨p, off + k * 13 + 10, none⟩ = some (.int .i64 b.n) ∧ w5.drew.cell? ⟨p, off + k * 13 + 11, none⟩ = some (.int .u64 b.w) ∧ w5.drew.cell? ⟨p, off + k * 13 + 12, none⟩ = some (.slice b.A b.list.length b.cap) ∧ Below w.heap.size w w5.drew) := Lib.hid (by
                obtain ⟨y0, y1, y2, y3, y4, y5, y6, y7, y8, y9, y10, y11, y12⟩ := AT.out w5.drew i a HAL.out HE.out.drew
                obtain ⟨z0, z1, z2, z3, z4, z5, z6, z7, z8, z9, z10, z11, z12⟩ := AT.out w5.drew k b hbl HE.out.drew
                exact ⟨y0, y1, y2, y3, y4, y5, y6, y7, y8, y9, y10, y11, y12, z0, z1, z2, z3, z4, z5, z6, z7, z8, z9, z10, z11, z12, HE.out.drew⟩)
              have DA : Hid (∀ W, Calls Try.prog 15 #[a.val, b.val] W fun e w' => e = .returned (.bool (beforeB a b)) ∧ Below W.heap.size W w') := Lib.hid fun W => before_any a b W
              have DB : Hid (∀ W, Calls Try.prog 16 #[a.val, b.val] W fun e w' => e = .returned (.bool (beforeB a b)) ∧ Below W.heap.size W w') := Lib.hid fun W => rBefore_any a b W
              generalize beforeB a b = bb at DA DB
              unfold Cl.val at DA DB
              have g1 : (bb != bb) = false := by simp
              clear hbl
              go_wp2
              go_region_held3 (fun w' => w'.cell? ⟨p, off + i * 13, none⟩ = some (.int .i64 a.me) ∧ w'.cell? ⟨p, off + i * 13 + 1, none⟩ = some (.int .i64 a.k) ∧ w'.cell? ⟨p, off + i * 13 + 2, none⟩ = some (.int .i64 a.u) ∧ w'.cell? ⟨p, off + i * 13 + 3, none⟩ = some (.int .i64 a.v) ∧ w'.cell? ⟨p, off + i * 13 + 4, none⟩ = some (.int .u64 a.x) ∧ w'.cell? ⟨p, off + i * 13 + 5, none⟩ = some (.int .i64 a.era) ∧ w'.cell? ⟨p, off + i * 13 + 6, none⟩ = some (.int .i64 a.fr) ∧ w'.cell? ⟨p, off + i * 13 + 7, none⟩ = some (.int .i64 a.to) ∧ w'.cell? ⟨p, off + i * 13 + 8, none⟩ = some (.int .i64 a.err) ∧ w'.cell? ⟨p, off + i * 13 + 9, none⟩ = some (.bool a.is) ∧ w'.cell? ⟨p, off + i * 13 + 10, none⟩ = some (.int .i64 a.n) ∧ w'.cell? ⟨p, off + i * 13 + 11, none⟩ = some (.int .u64 a.w) ∧ w'.cell? ⟨p, off + i * 13 + 12, none⟩ = some (.slice a.A a.list.length a.cap) ∧ w'.cell? ⟨p, off + k * 13, none⟩ = some (.int .i64 b.me) ∧ w'.cell? ⟨p, off + k * 13 + 1, none⟩ = some (.int .i64 b.k) ∧ w'.cell? ⟨p, off + k * 13 + 2, none⟩ = some (.int .i64 b.u) ∧ w'.cell? ⟨p, off + k * 13 + 3, none⟩ = some (.int .i64 b.v) ∧ w'.cell? ⟨p, off + k * 13 + 4, none⟩ = some (.int .u64 b.x) ∧ w'.cell? ⟨p, off + k * 13 + 5, none⟩ = some (.int .i64 b.era) ∧ w'.cell? ⟨p, off + k * 13 + 6, none⟩ = some (.int .i64 b.fr) ∧ w'.cell? ⟨p, off + k * 13 + 7, none⟩ = some (.int .i64 b.to) ∧ w'.cell? ⟨p, off + k * 13 + 8, none⟩ = some (.int .i64 b.err) ∧ w'.cell? ⟨p, off + k * 13 + 9, none⟩ = some (.bool b.is) ∧ w'.cell? ⟨p, off + k * 13 + 10, none⟩ = some (.int .i64 b.n) ∧ w'.cell? ⟨p, off + k * 13 + 11, none⟩ = some (.int .u64 b.w) ∧ w'.cell? ⟨p, off + k * 13 + 12, none⟩ = some (.slice b.A b.list.length b.cap) ∧ Below w.heap.size w w')
                (first | exact SS.out | assumption | exact KK.out _ _ (by assumption) (by assumption))
                (first | (go_at_call 15; ((with_reducible refine (DA.out _).mono ?_); rintro e wa ⟨rfl, hb1⟩)) | (go_at_call 16; ((with_reducible refine (DB.out _).mono ?_); rintro e wb ⟨rfl, hb2⟩)))
              have DR := Lib.hid HE.out.drew
              have H4 := Lib.hid (DR.out.trans (hb1.mono DR.out.size))
              have HX := Lib.hid (H4.out.trans (hb2.mono H4.out.size))
              clear hb1 hb2 DA DB KK SS H4 DR g1
              go_wp2
              go_roundw
              case rel => exact ⟨k + 1, by omega, by go_num, HX.out⟩
              case measure => simp [intOf]; omega
            · obtain rfl : k = n := by omega
              go_wp2
              go_roundw
              case rel => exact ⟨i + 1, by omega, by go_num, HE.out⟩
              case measure => simp [intOf]; omega
        · obtain rfl : i = n := by omega
          have D4 := Lib.hid (HK.out _ HB.out)
          have g0 : ((keys.length : Int) != (keys.length : Int)) = false := by simp
          go_wp2_with (first
            | (go_at_call 17; ((with_reducible refine D4.out.mono ?_); rintro e w4 ⟨B1, d1, rfl, hs, hb⟩; have S4 := Lib.hid hs; have H4 := Lib.hid (HB.out.trans (hb.mono HB.out.size)); have D5 := Lib.hid (HJ.out _ H4.out); clear hs hb))
            | (go_at_call 18; ((with_reducible refine D5.out.mono ?_); rintro e w5 ⟨B2, d2, rfl, hs, hb⟩; have S5 := Lib.hid hs; have H5 := Lib.hid (H4.out.trans (hb.mono H4.out.size)); have S4' := Lib.hid (S4.out.below hb (Nat.le_refl _)); clear hs hb)))
          obtain ⟨m, hm⟩ : ∃ m, m = keys.length := ⟨_, rfl⟩
          have HM := Lib.hid hm
          rw [← hm] at KB ⊢
          clear hm g0
          go_loopw [10] (fun v wr => ∃ k : Nat, k ≤ m ∧ v = .int .i64 k ∧ Below w5.heap.size w5 wr) (fun v _ => m - (intOf v).toNat)
          case atStart => exact ⟨0, Nat.zero_le _, rfl, Below.refl _ _⟩
          case round =>
            obtain ⟨k, hk, rfl, hb⟩ := hrel
            have HE := Lib.hid hb
            clear hb
            obtain ⟨w6, hw6⟩ : ∃ w6, w6 = wr := ⟨_, rfl⟩
            subst hw6
            by_cases hlk : k < m
            · have k0 : (0 : Int) ≤ (k : Int) := by omega
              have k1 : (k : Int) < (m : Int) := by omega
              have n4 : IntKind.i64.wrap ((k : Int) + 1) = (k : Int) + 1 := by rw [IntKind.wrap_i64] <;> omega
              obtain ⟨x, hx⟩ : ∃ x, keys[k]? = some x := ⟨keys[k]'(by rw [← HM.out]; exact hlk), List.getElem?_eq_getElem _⟩
              have hx' : (keys.map (Value.int .i64))[k]? = some (.int .i64 x) := by rw [List.getElem?_map, hx]; rfl
              have hml : 0 < (keys.map (Value.int .i64)).length := by rw [List.length_map, ← HM.out]; omega
              obtain ⟨b1, o1, hB1, t1⟩ := (S4'.out.below HE.out (Nat.le_refl _)) hml
              obtain ⟨b2, o2, hB2, t2⟩ := (S5.out.below HE.out (Nat.le_refl _)) hml
              subst hB1
              subst hB2
              have e1 := t1 k _ hx'
              have e2 := t2 k _ hx'
              have g1 : (x != x) = false := by simp
              clear t1 t2 hx hx' hml
              go_wp2
              go_quiet (fail)
              try go_wp2
              go_roundw
              case rel => exact ⟨k + 1, by omega, by go_num, by first | exact below_drewN HE.out _ | exact HE.out⟩
              case measure => simp [intOf]; omega
            · obtain rfl : k = m := by omega
              have HE5 := Lib.hid (H5.out.trans (HE.out.mono H5.out.size))
              have D6 := Lib.hid (HI.out _ HE5.out)
              have AL : Hid (∀ (W : World) A B c d, Sl W A (flat ps) → Sl W B (flat ps) → Calls Try.prog 21 #[.slice A ps.length c, .slice B ps.length d] W fun e w' => e = .returned (.bool true) ∧ Below W.heap.size W w') := Lib.hid fun W A B c d h1 h2 => alike_any A B c d ps.length ps W rfl h1 h2 PB
              go_wp2_with (first
                | (go_at_call 19; ((with_reducible refine D6.out.mono ?_); rintro e w7 ⟨rfl, hb⟩; have H7 := Lib.hid (HE5.out.trans (hb.mono HE5.out.size)); have D7 := Lib.hid (HH.out _ H7.out); clear hb))
                | (go_at_call 20; ((with_reducible refine D7.out.mono ?_); rintro e w8 ⟨rfl, hb⟩; have H8 := Lib.hid (H7.out.trans (hb.mono H7.out.size)); have D8 := Lib.hid (HP.out _ H8.out); clear hb))
                | (go_at_call 22; ((with_reducible refine D8.out.mono ?_); rintro e w9 ⟨P1, q1, rfl, hs, hb⟩; have S9 := Lib.hid hs; have H9 := Lib.hid (H8.out.trans (hb.mono H8.out.size)); have D9 := Lib.hid (HO.out _ H9.out); clear hb hs))
                | (go_at_call 23; ((with_reducible refine D9.out.mono ?_); rintro e w10 ⟨P2, q2, rfl, hs, hb⟩; have H10 := Lib.hid (H9.out.trans (hb.mono H9.out.size)); have D10 := Lib.hid (AL.out w10 P1 P2 q1 q2 (S9.out.below hb (Nat.le_refl _)) hs); clear hb hs))
                | (go_at_call 21; ((with_reducible refine D10.out.mono ?_); rintro e w11 ⟨rfl, hb⟩; have H11 := Lib.hid (H10.out.trans (hb.mono H10.out.size)); clear hb)))
              go_ret
              exact ⟨rfl, H11.out⟩
theorem tells_any (A : Option Addr) (c n : Nat) (l : List Cl) (w : World) (hn : n = l.length) (hl : Cls w A l) (hc : l.length ≤ c) (hc2 : c ≤ 9223372036854775807) (hf : ∀ a ∈ l, a.Fits) :
    Calls Try.prog 3 #[.slice A n c] w fun e w' => e = .returned (.bool true) ∧ Below w.heap.size w w' := by
  rcases Nat.lt_or_ge 12 n with h | h
  · exact tells_long A c n w h
  · have hf' : ∀ a ∈ l, a.list.length ≤ 9223372036854775807 := fun a ha => Nat.le_trans (hf a ha).1 (hf a ha).2
    cases hr : rightB l
    · exact tells_wrong A c n l w hn hl (by omega) hc2 h hr hf'
    · exact tells_right A c n l w hn hl (by omega) hc2 h hr hf'
end Go.Proofs.Ythepgdfhdkhhbaa
