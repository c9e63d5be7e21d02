/- wealdref20.Right. -/
import Derived.Test.YthepgdfhdkhhbaaSmall
namespace Go.Proofs.Ythepgdfhdkhhbaa
open Go.RowKit Aid

def OkAt (l : List Cl) (j : Nat) : Prop := ∀ b, l[j]? = some b → mayB b = true ∧ ∀ k a, k < j → l[k]? = some a → fitsB a b = true
def RightP (l : List Cl) : Prop := ∀ j, OkAt l j
noncomputable def rightB (l : List Cl) : Bool := by classical exact decide (RightP l)
theorem rightB_t {l : List Cl} (h : RightP l) : rightB l = true := by unfold rightB; simpa using h
theorem rightB_f {l : List Cl} (h : ¬ RightP l) : rightB l = false := by unfold rightB; simpa using h
theorem right_of {l : List Cl} (h : rightB l = true) : RightP l := by unfold rightB at h; simpa using h
theorem not_may {l : List Cl} {j : Nat} {b : Cl} (hb : l[j]? = some b) (h : mayB b = false) : rightB l = false := rightB_f fun r => by have := (r j b hb).1; rw [h] at this; cases this
theorem not_fits {l : List Cl} {j k : Nat} {a b : Cl} (hb : l[j]? = some b) (hk : k < j) (ha : l[k]? = some a) (h : fitsB a b = false) : rightB l = false := rightB_f fun r => by have := (r j b hb).2 k a hk ha; rw [h] at this; cases this
theorem ok_past {l : List Cl} {i : Nat} (h : ∀ j, j < i → OkAt l j) (hi : l.length ≤ i) : rightB l = true := rightB_t fun j => by
  rcases Nat.lt_or_ge j i with hj | hj
  · exact h j hj
  · intro a ha
    have := (List.getElem?_eq_some_iff.1 ha).1
    omega
theorem ok_step {l : List Cl} {i : Nat} (h : ∀ j, j < i → OkAt l j) {b : Cl} (hb : l[i]? = some b) (h1 : mayB b = true) (h2 : ∀ k a, k < i → l[k]? = some a → fitsB a b = true) : ∀ j, j < i + 1 → OkAt l j := fun j hj => by
  rcases Nat.lt_or_ge j i with q | q
  · exact h j q
  · obtain rfl : j = i := by omega
    intro b' hb'
    rw [hb] at hb'; cases hb'
    exact ⟨h1, h2⟩
theorem fits_step {l : List Cl} {k : Nat} {b a : Cl} (h : ∀ j a, j < k → l[j]? = some a → fitsB a b = true) (ha : l[k]? = some a) (hf : fitsB a b = true) : ∀ j a, j < k + 1 → l[j]? = some a → fitsB a b = true := fun j a' hj ha' => by
  rcases Nat.lt_or_ge j k with q | q
  · exact h j a' q ha'
  · obtain rfl : j = k := by omega
    rw [ha] at ha'; cases ha'; exact hf
set_option maxHeartbeats 32000000 in
set_option maxRecDepth 100000 in
theorem refRight_any (A : Option Addr) (c n : Nat) (l : List Cl) (w : World) (hn : n = l.length) (hl : Cls w A l) (h40 : l.length ≤ 1000) :
    Calls Try.prog 9 #[.slice A n c] w fun e w' => e = .returned (.bool (rightB l)) ∧ Below w.heap.size w w' := by
  subst hn
  have HL := Lib.hid hl
  clear hl
  go_enter Try.func9, Try.ntmps9
  go_wp2
  go_loopw [3] (fun v wr => ∃ i : Nat, i ≤ l.length ∧ v = .int .i64 i ∧ (∀ j, j < i → OkAt l j) ∧ Below w.heap.size w wr) (fun v _ => l.length - (intOf v).toNat)
  case atStart => exact ⟨0, Nat.zero_le _, rfl, fun j hj => by omega, Below.refl _ _⟩
  case round =>
    obtain ⟨i, hi, rfl, hall, hb⟩ := hrel
    obtain ⟨w0, hw0⟩ : ∃ w0, w0 = wr := ⟨_, rfl⟩
    subst hw0
    have HA := Lib.hid hall
    have HB := Lib.hid hb
    clear hall hb
    by_cases hlt : i < l.length
    · obtain ⟨⟨bme, bk, bu, bv, bx, bera, bfr, bto, berr, bis, bn, bw, blist, bA, bcap⟩, hbl⟩ : ∃ b, l[i]? = some b := ⟨_, List.getElem?_eq_getElem hlt⟩
      obtain ⟨b, off, hA, hat⟩ := (HL.out.below HB.out (Nat.le_refl _)).get hbl
      subst hA
      obtain ⟨c0, c1, c2, c3, c4, c5, c6, c7, c8, c9, c10, c11, c12⟩ := hat
      simp only at c0 c1 c2 c3 c4 c5 c6 c7 c8 c9 c10 c11 c12
      have HBL := Lib.hid hbl
      clear hbl
      have QB := Lib.hid ((Below.refl w0.heap.size w0).alloc (Nat.le_refl _) (.cells #[.int .i64 bme, .int .i64 bk, .int .i64 bu, .int .i64 bv, .int .u64 bx, .int .i64 bera, .int .i64 bfr, .int .i64 bto, .int .i64 berr, .bool bis, .int .i64 bn, .int .u64 bw, .slice bA blist.length bcap] 32))
      have HB1 := Lib.hid (HB.out.trans (QB.out.mono HB.out.size))
      have i0 : (0 : Int) ≤ (i : Int) := by omega
      have i1 : (i : Int) < (l.length : Int) := by omega
      have n3 : IntKind.i64.wrap ((i : Int) + 1) = (i : Int) + 1 := by rw [IntKind.wrap_i64] <;> omega
      by_cases h1 : bk < 11
      · have fh1 : decide (bk < 11) = true := decide_eq_true h1
        have hx := Lib.hid (not_may HBL.out (show mayB ⟨bme, bk, bu, bv, bx, bera, bfr, bto, berr, bis, bn, bw, blist, bA, bcap⟩ = false from decide_eq_false (by simp only; omega)))
        clear h1
        go_wp2
        go_ret
        exact ⟨by rw [hx.out]; rfl, HB1.out⟩
      · have fh1 : decide (bk < 11) = false := decide_eq_false h1
        by_cases h2 : 17 < bk
        · have fh2 : decide (17 < bk) = true := decide_eq_true h2
          have hx := Lib.hid (not_may HBL.out (show mayB ⟨bme, bk, bu, bv, bx, bera, bfr, bto, berr, bis, bn, bw, blist, bA, bcap⟩ = false from decide_eq_false (by simp only; omega)))
          clear h1 h2
          go_wp2
          go_ret
          exact ⟨by rw [hx.out]; rfl, HB1.out⟩
        · have fh2 : decide (17 < bk) = false := decide_eq_false h2
          by_cases h3 : bme < 0
          · have fh3 : decide (bme < 0) = true := decide_eq_true h3
            have hx := Lib.hid (not_may HBL.out (show mayB ⟨bme, bk, bu, bv, bx, bera, bfr, bto, berr, bis, bn, bw, blist, bA, bcap⟩ = false from decide_eq_false (by simp only; omega)))
            clear h1 h2 h3
            go_wp2
            go_ret
            exact ⟨by rw [hx.out]; rfl, HB1.out⟩
          · have fh3 : decide (bme < 0) = false := decide_eq_false h3
            by_cases h4 : 63 < bme
            · have fh4 : decide (63 < bme) = true := decide_eq_true h4
              have hx := Lib.hid (not_may HBL.out (show mayB ⟨bme, bk, bu, bv, bx, bera, bfr, bto, berr, bis, bn, bw, blist, bA, bcap⟩ = false from decide_eq_false (by simp only; omega)))
              clear h1 h2 h3 h4
              go_wp2
              go_ret
              exact ⟨by rw [hx.out]; rfl, HB1.out⟩
            · have fh4 : decide (63 < bme) = false := decide_eq_false h4
              by_cases h5 : bera < 0
              · have fh5 : decide (bera < 0) = true := decide_eq_true h5
                have hx := Lib.hid (not_may HBL.out (show mayB ⟨bme, bk, bu, bv, bx, bera, bfr, bto, berr, bis, bn, bw, blist, bA, bcap⟩ = false from decide_eq_false (by simp only; omega)))
                clear h1 h2 h3 h4 h5
                go_wp2
                go_ret
                exact ⟨by rw [hx.out]; rfl, HB1.out⟩
              · have fh5 : decide (bera < 0) = false := decide_eq_false h5
                by_cases h6 : bfr < 0
                · have fh6 : decide (bfr < 0) = true := decide_eq_true h6
                  have hx := Lib.hid (not_may HBL.out (show mayB ⟨bme, bk, bu, bv, bx, bera, bfr, bto, berr, bis, bn, bw, blist, bA, bcap⟩ = false from decide_eq_false (by simp only; omega)))
                  clear h1 h2 h3 h4 h5 h6
                  go_wp2
                  go_ret
                  exact ⟨by rw [hx.out]; rfl, HB1.out⟩
                · have fh6 : decide (bfr < 0) = false := decide_eq_false h6
                  by_cases h7 : 0 ≤ bto
                  · have fh7 : decide (0 ≤ bto) = true := decide_eq_true h7
                    by_cases h8 : bto ≤ bfr
                    · have fh8 : decide (bto ≤ bfr) = true := decide_eq_true h8
                      have hx := Lib.hid (not_may HBL.out (show mayB ⟨bme, bk, bu, bv, bx, bera, bfr, bto, berr, bis, bn, bw, blist, bA, bcap⟩ = false from decide_eq_false (by simp only; omega)))
                      clear h1 h2 h3 h4 h5 h6 h7 h8
                      go_wp2
                      go_ret
                      exact ⟨by rw [hx.out]; rfl, HB1.out⟩
                    · have fh8 : decide (bto ≤ bfr) = false := decide_eq_false h8
                      have hm := Lib.hid (show mayB ⟨bme, bk, bu, bv, bx, bera, bfr, bto, berr, bis, bn, bw, blist, bA, bcap⟩ = true from decide_eq_true (by simp only; omega))
                      clear h1 h2 h3 h4 h5 h6 h7 h8
                      go_wp2
                      go_loopw [5] (fun v wr => ∃ k : Nat, k ≤ i ∧ v = .int .i64 k ∧ (∀ j a, j < k → l[j]? = some a → fitsB a ⟨bme, bk, bu, bv, bx, bera, bfr, bto, berr, bis, bn, bw, blist, bA, bcap⟩ = true) ∧ Below (w0.alloc (.cells #[.int .i64 bme, .int .i64 bk, .int .i64 bu, .int .i64 bv, .int .u64 bx, .int .i64 bera, .int .i64 bfr, .int .i64 bto, .int .i64 berr, .bool bis, .int .i64 bn, .int .u64 bw, .slice bA blist.length bcap] 32)).heap.size (w0.alloc (.cells #[.int .i64 bme, .int .i64 bk, .int .i64 bu, .int .i64 bv, .int .u64 bx, .int .i64 bera, .int .i64 bfr, .int .i64 bto, .int .i64 berr, .bool bis, .int .i64 bn, .int .u64 bw, .slice bA blist.length bcap] 32)) wr) (fun v _ => i - (intOf v).toNat)
                      case atStart => exact ⟨0, Nat.zero_le _, rfl, fun j a hj => by omega, Below.refl _ _⟩
                      case round =>
                        obtain ⟨k, hk, rfl, hfs, hb2⟩ := hrel
                        have HK := Lib.hid hfs
                        have HC := Lib.hid hb2
                        have HW := Lib.hid (HB1.out.trans (hb2.mono HB1.out.size))
                        clear hfs hb2
                        by_cases hlk : k < i
                        · obtain ⟨⟨ame, ak, au, av, ax, aera, afr, ato, aerr, ais, an, aw, alist, aA, acap⟩, hal⟩ : ∃ a, l[k]? = some a := ⟨_, List.getElem?_eq_getElem (by omega)⟩
                          obtain ⟨_, _, hA2, hat2⟩ := (HL.out.below HW.out (Nat.le_refl _)).get hal
                          cases hA2
                          obtain ⟨g0, g1, g2, g3, g4, g5, g6, g7, g8, g9, g10, g11, g12⟩ := hat2
                          simp only at g0 g1 g2 g3 g4 g5 g6 g7 g8 g9 g10 g11 g12
                          have HAL := Lib.hid hal
                          clear hal
                          have HD1 := Lib.hid (HC.out.alloc HC.out.size (.cells #[.int .i64 ame, .int .i64 ak, .int .i64 au, .int .i64 av, .int .u64 ax, .int .i64 aera, .int .i64 afr, .int .i64 ato, .int .i64 aerr, .bool ais, .int .i64 an, .int .u64 aw, .slice aA alist.length acap] 32))
                          have HD2 := Lib.hid (HB1.out.trans (HD1.out.mono HB1.out.size))
                          obtain ⟨e0, _, _, _, _, e5, e6, _, _, _, _, _, _⟩ := (at_box w0 ⟨bme, bk, bu, bv, bx, bera, bfr, bto, berr, bis, bn, bw, blist, bA, bcap⟩).below HD1.out (Nat.le_refl _)
                          simp only at e0 e5 e6
                          have k0 : (0 : Int) ≤ (k : Int) := by omega
                          have k1 : (k : Int) < (l.length : Int) := by omega
                          have k2 : decide ((k : Int) < (i : Int)) = true := by simp; omega
                          have n4 : IntKind.i64.wrap ((k : Int) + 1) = (k : Int) + 1 := by rw [IntKind.wrap_i64] <;> omega
                          by_cases h9 : bfr ≤ afr
                          · have fh9 : decide (bfr ≤ afr) = true := decide_eq_true h9
                            have hx := Lib.hid (not_fits HBL.out hlk HAL.out (show fitsB ⟨ame, ak, au, av, ax, aera, afr, ato, aerr, ais, an, aw, alist, aA, acap⟩ ⟨bme, bk, bu, bv, bx, bera, bfr, bto, berr, bis, bn, bw, blist, bA, bcap⟩ = false from decide_eq_false (by first | (simp only; omega) | (simp; omega))))
                            clear h9
                            go_wp2
                            go_ret
                            exact ⟨by rw [hx.out]; rfl, HD2.out⟩
                          · have fh9 : decide (bfr ≤ afr) = false := decide_eq_false h9
                            by_cases h10 : bera < aera
                            · have fh10 : decide (bera < aera) = true := decide_eq_true h10
                              have hx := Lib.hid (not_fits HBL.out hlk HAL.out (show fitsB ⟨ame, ak, au, av, ax, aera, afr, ato, aerr, ais, an, aw, alist, aA, acap⟩ ⟨bme, bk, bu, bv, bx, bera, bfr, bto, berr, bis, bn, bw, blist, bA, bcap⟩ = false from decide_eq_false (by first | (simp only; omega) | (simp; omega))))
                              clear h9 h10
                              go_wp2
                              go_ret
                              exact ⟨by rw [hx.out]; rfl, HD2.out⟩
                            · have fh10 : decide (bera < aera) = false := decide_eq_false h10
                              by_cases h11 : aera < bera
                              · have fh11 : decide (aera < bera) = true := decide_eq_true h11
                                by_cases h12 : bfr ≤ ato
                                · have fh12 : decide (bfr ≤ ato) = true := decide_eq_true h12
                                  have hx := Lib.hid (not_fits HBL.out hlk HAL.out (show fitsB ⟨ame, ak, au, av, ax, aera, afr, ato, aerr, ais, an, aw, alist, aA, acap⟩ ⟨bme, bk, bu, bv, bx, bera, bfr, bto, berr, bis, bn, bw, blist, bA, bcap⟩ = false from decide_eq_false (by first | (simp only; omega) | (simp; omega))))
                                  clear h9 h10 h11 h12
                                  go_wp2
                                  go_ret
                                  exact ⟨by rw [hx.out]; rfl, HD2.out⟩
                                · have fh12 : decide (bfr ≤ ato) = false := decide_eq_false h12
                                  have fne : (aera == bera) = false := by simp; omega
                                  have hf := Lib.hid (show fitsB ⟨ame, ak, au, av, ax, aera, afr, ato, aerr, ais, an, aw, alist, aA, acap⟩ ⟨bme, bk, bu, bv, bx, bera, bfr, bto, berr, bis, bn, bw, blist, bA, bcap⟩ = true from decide_eq_true (by simp only; omega))
                                  clear h9 h10 h11 h12
                                  go_wp2
                                  go_roundw
                                  case rel => exact ⟨k + 1, by omega, by go_num, fits_step HK.out HAL.out hf.out, HD1.out⟩
                                  case measure => simp [intOf]; omega
                              · have fh11 : decide (aera < bera) = false := decide_eq_false h11
                                obtain rfl : aera = bera := by omega
                                by_cases h13 : ame = bme
                                · subst h13
                                  by_cases h14 : ato < 0
                                  · have fh14 : decide (ato < 0) = true := decide_eq_true h14
                                    have hx := Lib.hid (not_fits HBL.out hlk HAL.out (show fitsB ⟨ame, ak, au, av, ax, aera, afr, ato, aerr, ais, an, aw, alist, aA, acap⟩ ⟨ame, bk, bu, bv, bx, aera, bfr, bto, berr, bis, bn, bw, blist, bA, bcap⟩ = false from decide_eq_false (by first | (simp only; omega) | (simp; omega))))
                                    clear h9 h10 h11 h14
                                    go_wp2
                                    go_ret
                                    exact ⟨by rw [hx.out]; rfl, HD2.out⟩
                                  · have fh14 : decide (ato < 0) = false := decide_eq_false h14
                                    by_cases h15 : bfr ≤ ato
                                    · have fh15 : decide (bfr ≤ ato) = true := decide_eq_true h15
                                      have hx := Lib.hid (not_fits HBL.out hlk HAL.out (show fitsB ⟨ame, ak, au, av, ax, aera, afr, ato, aerr, ais, an, aw, alist, aA, acap⟩ ⟨ame, bk, bu, bv, bx, aera, bfr, bto, berr, bis, bn, bw, blist, bA, bcap⟩ = false from decide_eq_false (by first | (simp only; omega) | (simp; omega))))
                                      clear h9 h10 h11 h14 h15
                                      go_wp2
                                      go_ret
                                      exact ⟨by rw [hx.out]; rfl, HD2.out⟩
                                    · have fh15 : decide (bfr ≤ ato) = false := decide_eq_false h15
                                      have hf := Lib.hid (show fitsB ⟨ame, ak, au, av, ax, aera, afr, ato, aerr, ais, an, aw, alist, aA, acap⟩ ⟨ame, bk, bu, bv, bx, aera, bfr, bto, berr, bis, bn, bw, blist, bA, bcap⟩ = true from decide_eq_true (by simp only; omega))
                                      clear h9 h10 h11 h14 h15
                                      go_wp2
                                      go_roundw
                                      case rel => exact ⟨k + 1, by omega, by go_num, fits_step HK.out HAL.out hf.out, HD1.out⟩
                                      case measure => simp [intOf]; omega
                                · have fh13 : (ame == bme) = false := by simpa using h13
                                  have hf := Lib.hid (show fitsB ⟨ame, ak, au, av, ax, aera, afr, ato, aerr, ais, an, aw, alist, aA, acap⟩ ⟨bme, bk, bu, bv, bx, aera, bfr, bto, berr, bis, bn, bw, blist, bA, bcap⟩ = true from decide_eq_true (by simp only; omega))
                                  clear h9 h10 h11 h13
                                  go_wp2
                                  go_roundw
                                  case rel => exact ⟨k + 1, by omega, by go_num, fits_step HK.out HAL.out hf.out, HD1.out⟩
                                  case measure => simp [intOf]; omega
                        · obtain rfl : k = i := by omega
                          have hst := Lib.hid (ok_step HA.out HBL.out hm.out HK.out)
                          have k2 : decide ((k : Int) < (k : Int)) = false := by simp
                          go_wp2
                          go_roundw
                          case rel => exact ⟨k + 1, by omega, by go_num, hst.out, HW.out⟩
                          case measure => simp [intOf]; omega
                  · have fh7 : decide (0 ≤ bto) = false := decide_eq_false h7
                    have hm := Lib.hid (show mayB ⟨bme, bk, bu, bv, bx, bera, bfr, bto, berr, bis, bn, bw, blist, bA, bcap⟩ = true from decide_eq_true (by simp only; omega))
                    clear h1 h2 h3 h4 h5 h6 h7
                    go_wp2
                    go_loopw [5] (fun v wr => ∃ k : Nat, k ≤ i ∧ v = .int .i64 k ∧ (∀ j a, j < k → l[j]? = some a → fitsB a ⟨bme, bk, bu, bv, bx, bera, bfr, bto, berr, bis, bn, bw, blist, bA, bcap⟩ = true) ∧ Below (w0.alloc (.cells #[.int .i64 bme, .int .i64 bk, .int .i64 bu, .int .i64 bv, .int .u64 bx, .int .i64 bera, .int .i64 bfr, .int .i64 bto, .int .i64 berr, .bool bis, .int .i64 bn, .int .u64 bw, .slice bA blist.length bcap] 32)).heap.size (w0.alloc (.cells #[.int .i64 bme, .int .i64 bk, .int .i64 bu, .int .i64 bv, .int .u64 bx, .int .i64 bera, .int .i64 bfr, .int .i64 bto, .int .i64 berr, .bool bis, .int .i64 bn, .int .u64 bw, .slice bA blist.length bcap] 32)) wr) (fun v _ => i - (intOf v).toNat)
                    case atStart => exact ⟨0, Nat.zero_le _, rfl, fun j a hj => by omega, Below.refl _ _⟩
                    case round =>
                      obtain ⟨k, hk, rfl, hfs, hb2⟩ := hrel
                      have HK := Lib.hid hfs
                      have HC := Lib.hid hb2
                      have HW := Lib.hid (HB1.out.trans (hb2.mono HB1.out.size))
                      clear hfs hb2
                      by_cases hlk : k < i
                      · obtain ⟨⟨ame, ak, au, av, ax, aera, afr, ato, aerr, ais, an, aw, alist, aA, acap⟩, hal⟩ : ∃ a, l[k]? = some a := ⟨_, List.getElem?_eq_getElem (by omega)⟩
                        obtain ⟨_, _, hA2, hat2⟩ := (HL.out.below HW.out (Nat.le_refl _)).get hal
                        cases hA2
                        obtain ⟨g0, g1, g2, g3, g4, g5, g6, g7, g8, g9, g10, g11, g12⟩ := hat2
                        simp only at g0 g1 g2 g3 g4 g5 g6 g7 g8 g9 g10 g11 g12
                        have HAL := Lib.hid hal
                        clear hal
                        have HD1 := Lib.hid (HC.out.alloc HC.out.size (.cells #[.int .i64 ame, .int .i64 ak, .int .i64 au, .int .i64 av, .int .u64 ax, .int .i64 aera, .int .i64 afr, .int .i64 ato, .int .i64 aerr, .bool ais, .int .i64 an, .int .u64 aw, .slice aA alist.length acap] 32))
                        have HD2 := Lib.hid (HB1.out.trans (HD1.out.mono HB1.out.size))
                        obtain ⟨e0, _, _, _, _, e5, e6, _, _, _, _, _, _⟩ := (at_box w0 ⟨bme, bk, bu, bv, bx, bera, bfr, bto, berr, bis, bn, bw, blist, bA, bcap⟩).below HD1.out (Nat.le_refl _)
                        simp only at e0 e5 e6
                        have k0 : (0 : Int) ≤ (k : Int) := by omega
                        have k1 : (k : Int) < (l.length : Int) := by omega
                        have k2 : decide ((k : Int) < (i : Int)) = true := by simp; omega
                        have n4 : IntKind.i64.wrap ((k : Int) + 1) = (k : Int) + 1 := by rw [IntKind.wrap_i64] <;> omega
                        by_cases h16 : bfr ≤ afr
                        · have fh16 : decide (bfr ≤ afr) = true := decide_eq_true h16
                          have hx := Lib.hid (not_fits HBL.out hlk HAL.out (show fitsB ⟨ame, ak, au, av, ax, aera, afr, ato, aerr, ais, an, aw, alist, aA, acap⟩ ⟨bme, bk, bu, bv, bx, bera, bfr, bto, berr, bis, bn, bw, blist, bA, bcap⟩ = false from decide_eq_false (by first | (simp only; omega) | (simp; omega))))
                          clear h16
                          go_wp2
                          go_ret
                          exact ⟨by rw [hx.out]; rfl, HD2.out⟩
                        · have fh16 : decide (bfr ≤ afr) = false := decide_eq_false h16
                          by_cases h17 : bera < aera
                          · have fh17 : decide (bera < aera) = true := decide_eq_true h17
                            have hx := Lib.hid (not_fits HBL.out hlk HAL.out (show fitsB ⟨ame, ak, au, av, ax, aera, afr, ato, aerr, ais, an, aw, alist, aA, acap⟩ ⟨bme, bk, bu, bv, bx, bera, bfr, bto, berr, bis, bn, bw, blist, bA, bcap⟩ = false from decide_eq_false (by first | (simp only; omega) | (simp; omega))))
                            clear h16 h17
                            go_wp2
                            go_ret
                            exact ⟨by rw [hx.out]; rfl, HD2.out⟩
                          · have fh17 : decide (bera < aera) = false := decide_eq_false h17
                            by_cases h18 : aera < bera
                            · have fh18 : decide (aera < bera) = true := decide_eq_true h18
                              by_cases h19 : bfr ≤ ato
                              · have fh19 : decide (bfr ≤ ato) = true := decide_eq_true h19
                                have hx := Lib.hid (not_fits HBL.out hlk HAL.out (show fitsB ⟨ame, ak, au, av, ax, aera, afr, ato, aerr, ais, an, aw, alist, aA, acap⟩ ⟨bme, bk, bu, bv, bx, bera, bfr, bto, berr, bis, bn, bw, blist, bA, bcap⟩ = false from decide_eq_false (by first | (simp only; omega) | (simp; omega))))
                                clear h16 h17 h18 h19
                                go_wp2
                                go_ret
                                exact ⟨by rw [hx.out]; rfl, HD2.out⟩
                              · have fh19 : decide (bfr ≤ ato) = false := decide_eq_false h19
                                have fne : (aera == bera) = false := by simp; omega
                                have hf := Lib.hid (show fitsB ⟨ame, ak, au, av, ax, aera, afr, ato, aerr, ais, an, aw, alist, aA, acap⟩ ⟨bme, bk, bu, bv, bx, bera, bfr, bto, berr, bis, bn, bw, blist, bA, bcap⟩ = true from decide_eq_true (by simp only; omega))
                                clear h16 h17 h18 h19
                                go_wp2
                                go_roundw
                                case rel => exact ⟨k + 1, by omega, by go_num, fits_step HK.out HAL.out hf.out, HD1.out⟩
                                case measure => simp [intOf]; omega
                            · have fh18 : decide (aera < bera) = false := decide_eq_false h18
                              obtain rfl : aera = bera := by omega
                              by_cases h20 : ame = bme
                              · subst h20
                                by_cases h21 : ato < 0
                                · have fh21 : decide (ato < 0) = true := decide_eq_true h21
                                  have hx := Lib.hid (not_fits HBL.out hlk HAL.out (show fitsB ⟨ame, ak, au, av, ax, aera, afr, ato, aerr, ais, an, aw, alist, aA, acap⟩ ⟨ame, bk, bu, bv, bx, aera, bfr, bto, berr, bis, bn, bw, blist, bA, bcap⟩ = false from decide_eq_false (by first | (simp only; omega) | (simp; omega))))
                                  clear h16 h17 h18 h21
                                  go_wp2
                                  go_ret
                                  exact ⟨by rw [hx.out]; rfl, HD2.out⟩
                                · have fh21 : decide (ato < 0) = false := decide_eq_false h21
                                  by_cases h22 : bfr ≤ ato
                                  · have fh22 : decide (bfr ≤ ato) = true := decide_eq_true h22
                                    have hx := Lib.hid (not_fits HBL.out hlk HAL.out (show fitsB ⟨ame, ak, au, av, ax, aera, afr, ato, aerr, ais, an, aw, alist, aA, acap⟩ ⟨ame, bk, bu, bv, bx, aera, bfr, bto, berr, bis, bn, bw, blist, bA, bcap⟩ = false from decide_eq_false (by first | (simp only; omega) | (simp; omega))))
                                    clear h16 h17 h18 h21 h22
                                    go_wp2
                                    go_ret
                                    exact ⟨by rw [hx.out]; rfl, HD2.out⟩
                                  · have fh22 : decide (bfr ≤ ato) = false := decide_eq_false h22
                                    have hf := Lib.hid (show fitsB ⟨ame, ak, au, av, ax, aera, afr, ato, aerr, ais, an, aw, alist, aA, acap⟩ ⟨ame, bk, bu, bv, bx, aera, bfr, bto, berr, bis, bn, bw, blist, bA, bcap⟩ = true from decide_eq_true (by simp only; omega))
                                    clear h16 h17 h18 h21 h22
                                    go_wp2
                                    go_roundw
                                    case rel => exact ⟨k + 1, by omega, by go_num, fits_step HK.out HAL.out hf.out, HD1.out⟩
                                    case measure => simp [intOf]; omega
                              · have fh20 : (ame == bme) = false := by simpa using h20
                                have hf := Lib.hid (show fitsB ⟨ame, ak, au, av, ax, aera, afr, ato, aerr, ais, an, aw, alist, aA, acap⟩ ⟨bme, bk, bu, bv, bx, aera, bfr, bto, berr, bis, bn, bw, blist, bA, bcap⟩ = true from decide_eq_true (by simp only; omega))
                                clear h16 h17 h18 h20
                                go_wp2
                                go_roundw
                                case rel => exact ⟨k + 1, by omega, by go_num, fits_step HK.out HAL.out hf.out, HD1.out⟩
                                case measure => simp [intOf]; omega
                      · obtain rfl : k = i := by omega
                        have hst := Lib.hid (ok_step HA.out HBL.out hm.out HK.out)
                        have k2 : decide ((k : Int) < (k : Int)) = false := by simp
                        go_wp2
                        go_roundw
                        case rel => exact ⟨k + 1, by omega, by go_num, hst.out, HW.out⟩
                        case measure => simp [intOf]; omega
    · have hx := Lib.hid (ok_past HA.out (by omega))
      go_wp2
      go_ret
      exact ⟨by rw [hx.out]; rfl, HB.out⟩
end Go.Proofs.Ythepgdfhdkhhbaa
