/- wealdref11.Outs and wealdref20.Alike, of equal points. -/
import Derived.Test.YthepgdfhdkhhbaaMem
import Derived.StillTailTactics
namespace Go.Proofs.Ythepgdfhdkhhbaa
open Go.RowKit Aid

set_option maxRecDepth 100000 in
theorem outs_same (e n x : Int) (is : Bool) (w : World) : Calls Try.prog 35 #[.agg #[.int .i64 e, .bool is, .int .i64 n, .int .u64 x, .slice none 0 0], .agg #[.int .i64 e, .bool is, .int .i64 n, .int .u64 x, .slice none 0 0]] w fun e w' => e = .returned (.bool true) ∧ Below w.heap.size w w' := by
  have HA := Lib.hid (((Below.refl w.heap.size w).alloc (Nat.le_refl _) (.cells #[.int .i64 e, .bool is, .int .i64 n, .int .u64 x, .slice none 0 0] 28)))
  have HB := Lib.hid (HA.out.alloc HA.out.size (.cells #[.int .i64 e, .bool is, .int .i64 n, .int .u64 x, .slice none 0 0] 28))
  have g1 : (e != e) = false := by simp
  have g2 : (n != n) = false := by simp
  have g3 : (x != x) = false := by simp
  have g4 : (is != is) = false := by simp
  go_enter Try.func35, Try.ntmps35
  go_wp2
  go_loopw [5] (fun v wr => v = .int .i64 0 ∧ wr = (w.alloc (.cells #[.int .i64 e, .bool is, .int .i64 n, .int .u64 x, .slice none 0 0] 28)).alloc (.cells #[.int .i64 e, .bool is, .int .i64 n, .int .u64 x, .slice none 0 0] 28)) (fun _ _ => 0)
  case atStart => exact ⟨rfl, rfl⟩
  case round =>
    obtain ⟨rfl, rfl⟩ := hrel
    go_wp2
    go_ret
    exact ⟨rfl, HB.out⟩
set_option maxHeartbeats 16000000 in
set_option maxRecDepth 100000 in
theorem alike_any (A B : Option Addr) (c d n : Nat) (ps : List Pt) (w : World) (hn : n = ps.length) (ha : Sl w A (flat ps)) (hb : Sl w B (flat ps)) (h40 : ps.length ≤ 1000000) :
    Calls Try.prog 21 #[.slice A n c, .slice B n d] w fun e w' => e = .returned (.bool true) ∧ Below w.heap.size w w' := by
  have HN := Lib.hid hn
  have SA := Lib.hid ha
  have SB := Lib.hid hb
  have nb : n ≤ 1000000 := by omega
  clear hn ha hb h40
  have g0 : ((n : Int) != (n : Int)) = false := by simp
  go_enter Try.func21, Try.ntmps21
  go_wp2
  go_loopw [5] (fun v wr => ∃ i : Nat, i ≤ n ∧ v = .int .i64 i ∧ Below w.heap.size w wr) (fun v _ => n - (intOf v).toNat)
  case atStart => exact ⟨0, Nat.zero_le _, rfl, Below.refl _ _⟩
  case round =>
    obtain ⟨i, hi, rfl, hb⟩ := hrel
    have HB := Lib.hid hb
    clear hb
    obtain ⟨w0, hw0⟩ : ∃ w0, w0 = wr := ⟨_, rfl⟩
    subst hw0
    have DR : Hid (Below w.heap.size w w0.drew) := Lib.hid HB.out.drew
    by_cases hlt : i < n
    · have i0 : (0 : Int) ≤ (i : Int) := by omega
      have i1 : (i : Int) < (n : Int) := by omega
      have n3 : IntKind.i64.wrap ((i : Int) + 1) = (i : Int) + 1 := by rw [IntKind.wrap_i64] <;> omega
      obtain ⟨q, hq⟩ : ∃ q, ps[i]? = some q := ⟨ps[i]'(by rw [← HN.out]; exact hlt), List.getElem?_eq_getElem _⟩
      obtain ⟨b1, o1, hA, _⟩ := sl_pt SA.out hq
      obtain ⟨b2, o2, hB, _⟩ := sl_pt SB.out hq
      subst hA
      subst hB
      have HS : Hid (∀ W, Below w.heap.size w W → W.cell? ⟨b1, o1 + i * 14, none⟩ = some (.int .i64 q.k) ∧ W.cell? ⟨b1, o1 + i * 14 + 1, none⟩ = some (.int .i64 q.u) ∧ W.cell? ⟨b1, o1 + i * 14 + 2, none⟩ = some (.int .i64 q.v) ∧ W.cell? ⟨b1, o1 + i * 14 + 3, none⟩ = some (.int .u64 q.x) ∧ W.cell? ⟨b1, o1 + i * 14 + 4, none⟩ = some (.int .i64 q.err) ∧ W.cell? ⟨b1, o1 + i * 14 + 5, none⟩ = some (.bool q.is) ∧ W.cell? ⟨b1, o1 + i * 14 + 6, none⟩ = some (.int .i64 q.n) ∧ W.cell? ⟨b1, o1 + i * 14 + 7, none⟩ = some (.int .u64 q.w) ∧ W.cell? ⟨b1, o1 + i * 14 + 8, none⟩ = some (.slice none 0 0) ∧ W.cell? ⟨b1, o1 + i * 14 + 9, none⟩ = some (.bool q.any) ∧ W.cell? ⟨b1, o1 + i * 14 + 10, none⟩ = some (.int .i64 q.fr) ∧ W.cell? ⟨b1, o1 + i * 14 + 11, none⟩ = some (.int .i64 q.to) ∧ W.cell? ⟨b1, o1 + i * 14 + 12, none⟩ = some (.int .i64 q.era) ∧ W.cell? ⟨b1, o1 + i * 14 + 13, none⟩ = some (.bool q.must) ∧ W.cell? ⟨b2, o2 + i * 14, none⟩ = some (.int .i64 q.k) ∧ W.cell? ⟨b2, o2 + i * 14 + 1, none⟩ = some (.int .i64 q.u) ∧ W.cell? ⟨b2, o2 + i * 14 + 2, none⟩ = some (.int .i64 q.v) ∧ W.cell? ⟨b2, o2 + i * 14 + 3, none⟩ = some (.int .u64 q.x) ∧ W.cell? ⟨b2, o2 + i * 14 + 4, none⟩ = some (.int .i64 q.err) ∧ W.cell? ⟨b2, o2 + i * 14 + 5, none⟩ = some (.bool q.is) ∧ W.cell? ⟨b2, o2 + i * 14 + 6, none⟩ = some (.int .i64 q.n) ∧ W.cell? ⟨b2, o2 + i * 14 + 7, none⟩ = some (.int .u64 q.w) ∧ W.cell? ⟨b2, o2 + i * 14 + 8, none⟩ = some (.slice none 0 0) ∧ W.cell? ⟨b2, o2 + i * 14 + 9, none⟩ = some (.bool q.any) ∧ W.cell? ⟨b2, o2 + i * 14 + 10, none⟩ = some (.int .i64 q.fr) ∧ W.cell? ⟨b2, o2 + i * 14 + 11, none⟩ = some (.int .i64 q.to) ∧ W.cell? ⟨b2, o2 + i * 14 + 12, none⟩ = some (.int .i64 q.era) ∧ W.cell? ⟨b2, o2 + i * 14 + 13, none⟩ = some (.bool q.must) ∧ Below w.heap.size w W) := Lib.hid fun W hW => by
        obtain ⟨_, _, e1, h1⟩ := sl_pt (SA.out.below hW (Nat.le_refl _)) hq
        obtain ⟨_, _, e2, h2⟩ := sl_pt (SB.out.below hW (Nat.le_refl _)) hq
        cases e1
        cases e2
        obtain ⟨x0, x1, x2, x3, x4, x5, x6, x7, x8, x9, x10, x11, x12, x13⟩ := h1
        obtain ⟨y0, y1, y2, y3, y4, y5, y6, y7, y8, y9, y10, y11, y12, y13⟩ := h2
        exact ⟨x0, x1, x2, x3, x4, x5, x6, x7, x8, x9, x10, x11, x12, x13, y0, y1, y2, y3, y4, y5, y6, y7, y8, y9, y10, y11, y12, y13, hW⟩
      clear hq
      have DO : Hid (∀ W, Calls Try.prog 35 #[.agg #[.int .i64 q.err, .bool q.is, .int .i64 q.n, .int .u64 q.w, .slice none 0 0], .agg #[.int .i64 q.err, .bool q.is, .int .i64 q.n, .int .u64 q.w, .slice none 0 0]] W fun e w' => e = .returned (.bool true) ∧ Below W.heap.size W w') := Lib.hid fun W => outs_same q.err q.n q.w q.is W
      have SS := Lib.hid (HS.out w0.drew DR.out)
      have KK : Hid (∀ W W', (W.cell? ⟨b1, o1 + i * 14, none⟩ = some (.int .i64 q.k) ∧ W.cell? ⟨b1, o1 + i * 14 + 1, none⟩ = some (.int .i64 q.u) ∧ W.cell? ⟨b1, o1 + i * 14 + 2, none⟩ = some (.int .i64 q.v) ∧ W.cell? ⟨b1, o1 + i * 14 + 3, none⟩ = some (.int .u64 q.x) ∧ W.cell? ⟨b1, o1 + i * 14 + 4, none⟩ = some (.int .i64 q.err) ∧ W.cell? ⟨b1, o1 + i * 14 + 5, none⟩ = some (.bool q.is) ∧ W.cell? ⟨b1, o1 + i * 14 + 6, none⟩ = some (.int .i64 q.n) ∧ W.cell? ⟨b1, o1 + i * 14 + 7, none⟩ = some (.int .u64 q.w) ∧ W.cell? ⟨b1, o1 + i * 14 + 8, none⟩ = some (.slice none 0 0) ∧ W.cell? ⟨b1, o1 + i * 14 + 9, none⟩ = some (.bool q.any) ∧ W.cell? ⟨b1, o1 + i * 14 + 10, none⟩ = some (.int .i64 q.fr) ∧ W.cell? ⟨b1, o1 + i * 14 + 11, none⟩ = some (.int .i64 q.to) ∧ W.cell? ⟨b1, o1 + i * 14 + 12, none⟩ = some (.int .i64 q.era) ∧ W.cell? ⟨b1, o1 + i * 14 + 13, none⟩ = some (.bool q.must) ∧ W.cell? ⟨b2, o2 + i * 14, none⟩ = some (.int .i64 q.k) ∧ W.cell? ⟨b2, o2 + i * 14 + 1, none⟩ = some (.int .i64 q.u) ∧ W.cell? ⟨b2, o2 + i * 14 + 2, none⟩ = some (.int .i64 q.v) ∧ W.cell? ⟨b2, o2 + i * 14 + 3, none⟩ = some (.int .u64 q.x) ∧ W.cell? ⟨b2, o2 + i * 14 + 4, none⟩ = some (.int .i64 q.err) ∧ W.cell? ⟨b2, o2 + i * 14 + 5, none⟩ = some (.bool q.is) ∧ W.cell? ⟨b2, o2 + i * 14 + 6, none⟩ = some (.int .i64 q.n) ∧ W.cell? ⟨b2, o2 + i * 14 + 7, none⟩ = some (.int .u64 q.w) ∧ W.cell? ⟨b2, o2 + i * 14 + 8, none⟩ = some (.slice none 0 0) ∧ W.cell? ⟨b2, o2 + i * 14 + 9, none⟩ = some (.bool q.any) ∧ W.cell? ⟨b2, o2 + i * 14 + 10, none⟩ = some (.int .i64 q.fr) ∧ W.cell? ⟨b2, o2 + i * 14 + 11, none⟩ = some (.int .i64 q.to) ∧ W.cell? ⟨b2, o2 + i * 14 + 12, none⟩ = some (.int .i64 q.era) ∧ W.cell? ⟨b2, o2 + i * 14 + 13, none⟩ = some (.bool q.must) ∧ Below w.heap.size w W) → Below W.heap.size W W' → W'.cell? ⟨b1, o1 + i * 14, none⟩ = some (.int .i64 q.k) ∧ W'.cell? ⟨b1, o1 + i * 14 + 1, none⟩ = some (.int .i64 q.u) ∧ W'.cell? ⟨b1, o1 + i * 14 + 2, none⟩ = some (.int .i64 q.v) ∧ W'.cell? ⟨b1, o1 + i * 14 + 3, none⟩ = some (.int .u64 q.x) ∧ W'.cell? ⟨b1, o1 + i * 14 + 4, none⟩ = some (.int .i64 q.err) ∧ W'.cell? ⟨b1, o1 + i * 14 + 5, none⟩ = some (.bool q.is) ∧ W'.cell? ⟨b1, o1 + i * 14 + 6, none⟩ = some (.int .i64 q.n) ∧ W'.cell? ⟨b1, o1 + i * 14 + 7, none⟩ = some (.int .u64 q.w) ∧ W'.cell? ⟨b1, o1 + i * 14 + 8, none⟩ = some (.slice none 0 0) ∧ W'.cell? ⟨b1, o1 + i * 14 + 9, none⟩ = some (.bool q.any) ∧ W'.cell? ⟨b1, o1 + i * 14 + 10, none⟩ = some (.int .i64 q.fr) ∧ W'.cell? ⟨b1, o1 + i * 14 + 11, none⟩ = some (.int .i64 q.to) ∧ W'.cell? ⟨b1, o1 + i * 14 + 12, none⟩ = some (.int .i64 q.era) ∧ W'.cell? ⟨b1, o1 + i * 14 + 13, none⟩ = some (.bool q.must) ∧ W'.cell? ⟨b2, o2 + i * 14, none⟩ = some (.int .i64 q.k) ∧ W'.cell? ⟨b2, o2 + i * 14 + 1, none⟩ = some (.int .i64 q.u) ∧ W'.cell? ⟨b2, o2 + i * 14 + 2, none⟩ = some (.int .i64 q.v) ∧ W'.cell? ⟨b2, o2 + i * 14 + 3, none⟩ = some (.int .u64 q.x) ∧ W'.cell? ⟨b2, o2 + i * 14 + 4, none⟩ = some (.int .i64 q.err) ∧ W'.cell? ⟨b2, o2 + i * 14 + 5, none⟩ = some (.bool q.is) ∧ W'.cell? ⟨b2, o2 + i * 14 + 6, none⟩ = some (.int .i64 q.n) ∧ W'.cell? ⟨b2, o2 + i * 14 + 7, none⟩ = some (.int .u64 q.w) ∧ W'.cell? ⟨b2, o2 + i * 14 + 8, none⟩ = some (.slice none 0 0) ∧ W'.cell? ⟨b2, o2 + i * 14 + 9, none⟩ = some (.bool q.any) ∧ W'.cell? ⟨b2, o2 + i * 14 + 10, none⟩ = some (.int .i64 q.fr) ∧ W'.cell? ⟨b2, o2 + i * 14 + 11, none⟩ = some (.int .i64 q.to) ∧ W'.cell? ⟨b2, o2 + i * 14 + 12, none⟩ = some (.int .i64 q.era) ∧ W'.cell? ⟨b2, o2 + i * 14 + 13, none⟩ = some (.bool q.must) ∧ Below w.heap.size w W') := Lib.hid fun W W' h hW => by
        obtain ⟨x0, x1, x2, x3, x4, x5, x6, x7, x8, x9, x10, x11, x12, x13, y0, y1, y2, y3, y4, y5, y6, y7, y8, y9, y10, y11, y12, y13, hw⟩ := h
        exact HS.out W' (hw.trans (hW.mono hw.size))
      have g1 : (q.k != q.k) = false := by simp
      have g2 : (q.u != q.u) = false := by simp
      have g3 : (q.v != q.v) = false := by simp
      have g4 : (q.x != q.x) = false := by simp
      have g5 : (q.any != q.any) = false := by simp
      have g6 : (q.fr != q.fr) = false := by simp
      have g7 : (q.to != q.to) = false := by simp
      have g8 : (q.era != q.era) = false := by simp
      have g9 : (q.must != q.must) = false := by simp
      go_wp2
      go_region_held3 (fun w' => w'.cell? ⟨b1, o1 + i * 14, none⟩ = some (.int .i64 q.k) ∧ w'.cell? ⟨b1, o1 + i * 14 + 1, none⟩ = some (.int .i64 q.u) ∧ w'.cell? ⟨b1, o1 + i * 14 + 2, none⟩ = some (.int .i64 q.v) ∧ w'.cell? ⟨b1, o1 + i * 14 + 3, none⟩ = some (.int .u64 q.x) ∧ w'.cell? ⟨b1, o1 + i * 14 + 4, none⟩ = some (.int .i64 q.err) ∧ w'.cell? ⟨b1, o1 + i * 14 + 5, none⟩ = some (.bool q.is) ∧ w'.cell? ⟨b1, o1 + i * 14 + 6, none⟩ = some (.int .i64 q.n) ∧ w'.cell? ⟨b1, o1 + i * 14 + 7, none⟩ = some (.int .u64 q.w) ∧ w'.cell? ⟨b1, o1 + i * 14 + 8, none⟩ = some (.slice none 0 0) ∧ w'.cell? ⟨b1, o1 + i * 14 + 9, none⟩ = some (.bool q.any) ∧ w'.cell? ⟨b1, o1 + i * 14 + 10, none⟩ = some (.int .i64 q.fr) ∧ w'.cell? ⟨b1, o1 + i * 14 + 11, none⟩ = some (.int .i64 q.to) ∧ w'.cell? ⟨b1, o1 + i * 14 + 12, none⟩ = some (.int .i64 q.era) ∧ w'.cell? ⟨b1, o1 + i * 14 + 13, none⟩ = some (.bool q.must) ∧ w'.cell? ⟨b2, o2 + i * 14, none⟩ = some (.int .i64 q.k) ∧ w'.cell? ⟨b2, o2 + i * 14 + 1, none⟩ = some (.int .i64 q.u) ∧ w'.cell? ⟨b2, o2 + i * 14 + 2, none⟩ = some (.int .i64 q.v) ∧ w'.cell? ⟨b2, o2 + i * 14 + 3, none⟩ = some (.int .u64 q.x) ∧ w'.cell? ⟨b2, o2 + i * 14 + 4, none⟩ = some (.int .i64 q.err) ∧ w'.cell? ⟨b2, o2 + i * 14 + 5, none⟩ = some (.bool q.is) ∧ w'.cell? ⟨b2, o2 + i * 14 + 6, none⟩ = some (.int .i64 q.n) ∧ w'.cell? ⟨b2, o2 + i * 14 + 7, none⟩ = some (.int .u64 q.w) ∧ w'.cell? ⟨b2, o2 + i * 14 + 8, none⟩ = some (.slice none 0 0) ∧ w'.cell? ⟨b2, o2 + i * 14 + 9, none⟩ = some (.bool q.any) ∧ w'.cell? ⟨b2, o2 + i * 14 + 10, none⟩ = some (.int .i64 q.fr) ∧ w'.cell? ⟨b2, o2 + i * 14 + 11, none⟩ = some (.int .i64 q.to) ∧ w'.cell? ⟨b2, o2 + i * 14 + 12, none⟩ = some (.int .i64 q.era) ∧ w'.cell? ⟨b2, o2 + i * 14 + 13, none⟩ = some (.bool q.must) ∧ Below w.heap.size w w')
        (first | exact SS.out | assumption | exact KK.out _ _ (by assumption) (by assumption))
        (first | (go_at_call 35; ((with_reducible refine (DO.out _).mono ?_); rintro e w' ⟨rfl, hb⟩)))
      have HX := Lib.hid (DR.out.trans (hb.mono DR.out.size))
      clear hb
      obtain ⟨x0, x1, x2, x3, x4, x5, x6, x7, x8, x9, x10, x11, x12, x13, y0, y1, y2, y3, y4, y5, y6, y7, y8, y9, y10, y11, y12, y13, _⟩ := HS.out _ HX.out
      go_wp2
      go_quiet (fail)
      try go_wp2
      go_roundw
      case rel => exact ⟨i + 1, by omega, by go_num, by first | exact below_drewN HX.out _ | exact HX.out⟩
      case measure => simp [intOf]; omega
    · obtain rfl : i = n := by omega
      go_wp2
      go_ret
      exact ⟨rfl, HB.out⟩
end Go.Proofs.Ythepgdfhdkhhbaa
