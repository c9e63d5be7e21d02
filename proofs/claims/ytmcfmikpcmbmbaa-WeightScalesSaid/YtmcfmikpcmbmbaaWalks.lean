/- The walks through the order of weights: places, Less, the greatest one of a row, and their references. -/
import Derived.Test.YtmcfmikpcmbmbaaRows
import Derived.WalkKit
import Derived.ProofKit
import Derived.OpenShut
import Derived.Below
import Derived.Lib.Hide
import Derived.WalkLawsBesides
import Derived.Laws.BitsAllLaws
import Derived.Outline
namespace Go.Proofs.Ytmcfmikpcmbmbaa
open Go.RowKit

/-- A float's place in the order. -/
def pl (b : Int) : Int := if 9223372036854775808 ≤ b then 18446744073709551615 - b else b + 9223372036854775808
def lessB (a b : Int) : Bool := decide (pl a < pl b)
attribute [irreducible] lessB pl

theorem and_top (b : Int) (h0 : 0 ≤ b) (h1 : b < 18446744073709551616) : bits .and .u64 b 9223372036854775808 = if 9223372036854775808 ≤ b then 9223372036854775808 else 0 := by
  obtain ⟨B, rfl⟩ := Int.eq_ofNat_of_zero_le h0
  rw [show (9223372036854775808 : Int) = ((9223372036854775808 : Nat) : Int) from rfl, u64_and_nat B 9223372036854775808 (by omega) (by omega)]
  have e : (9223372036854775808 : Nat) = 2 ^ 63 := by decide
  by_cases h : 9223372036854775808 ≤ B
  · rw [if_pos (by omega)]
    congr 1
    have hB : B = (B - 2 ^ 63) ||| 2 ^ 63 := by
      have := Nat.two_pow_add_eq_or_of_lt (i := 63) (b := B - 2 ^ 63) (by omega) 1
      rw [Nat.mul_one] at this
      rw [Nat.or_comm, ← this]; omega
    have hlt : (B - 2 ^ 63) &&& 2 ^ 63 = 0 := by
      apply Nat.eq_of_testBit_eq
      intro i
      rw [Nat.testBit_and, Nat.testBit_two_pow, Nat.zero_testBit]
      by_cases hi : 63 = i
      · subst hi
        rw [Nat.testBit_lt_two_pow (show B - 2 ^ 63 < 2 ^ 63 by omega)]; rfl
      · simp [hi]
    rw [e]
    conv => lhs; rw [hB]
    rw [Nat.and_or_distrib_right, hlt, Nat.and_self, Nat.zero_or]
  · rw [if_neg (by omega)]
    have hz : B &&& 9223372036854775808 = 0 := by
      apply Nat.eq_of_testBit_eq
      intro i
      rw [e, Nat.testBit_and, Nat.testBit_two_pow, Nat.zero_testBit]
      by_cases hi : 63 = i
      · subst hi
        rw [Nat.testBit_lt_two_pow (show B < 2 ^ 63 by omega)]; rfl
      · simp [hi]
    rw [hz]; rfl
theorem or_top (b : Int) (h0 : 0 ≤ b) (h1 : b < 9223372036854775808) : bits .or .u64 b 9223372036854775808 = b + 9223372036854775808 := by
  obtain ⟨B, rfl⟩ := Int.eq_ofNat_of_zero_le h0
  rw [show (9223372036854775808 : Int) = ((9223372036854775808 : Nat) : Int) from rfl, u64_or_nat B 9223372036854775808 (by omega) (by omega)]
  have e : (9223372036854775808 : Nat) = 2 ^ 63 := by decide
  have := Nat.two_pow_add_eq_or_of_lt (i := 63) (b := B) (by omega) 1
  rw [Nat.mul_one] at this
  rw [e, Nat.or_comm, ← this]
  omega
theorem max_xor (b : Int) (h0 : 0 ≤ b) (h1 : b < 18446744073709551616) : bits .xor .u64 IntKind.u64.max b = 18446744073709551615 - b := by
  obtain ⟨B, rfl⟩ := Int.eq_ofNat_of_zero_le h0
  have hb : B < 2 ^ 64 := by omega
  rw [show IntKind.u64.max = ((18446744073709551615 : Nat) : Int) from by decide, bits_xor_u64_nat 18446744073709551615 B (by omega) (by omega)]
  have h2 : (18446744073709551615 : Nat) ^^^ B = 18446744073709551615 - B := by
    have := BitVec.toNat_not (x := BitVec.ofNat 64 B)
    rw [← BitVec.xor_allOnes, BitVec.toNat_xor, BitVec.toNat_ofNat, Nat.mod_eq_of_lt hb, BitVec.toNat_allOnes, Nat.xor_comm] at this
    have e : 2 ^ 64 - 1 = 18446744073709551615 := by decide
    rw [e] at this
    rw [this]
  rw [h2]; omega

theorem place_any (b : Int) (w : World) (h0 : 0 ≤ b) (h1 : b < 18446744073709551616) : Calls Try.prog 21 #[.int .u64 b] w fun e w' => e = .returned (.int .u64 (pl b)) ∧ w = w' := by
  have ha := and_top b h0 h1
  by_cases h : 9223372036854775808 ≤ b
  · rw [if_pos h] at ha
    have hs : IntKind.u64.signed = false := rfl
    have hx := max_xor b h0 h1
    have HP := Lib.hid (show pl b = 18446744073709551615 - b from by unfold pl; rw [if_pos h])
    go_enter Try.func21, Try.ntmps21
    go_wp2
    go_ret
    exact ⟨by rw [HP.out]; rfl, rfl⟩
  · rw [if_neg h] at ha
    have ho := or_top b h0 (by omega)
    have HP := Lib.hid (show pl b = b + 9223372036854775808 from by unfold pl; rw [if_neg h])
    go_enter Try.func21, Try.ntmps21
    go_wp2
    go_ret
    exact ⟨by rw [HP.out]; rfl, rfl⟩
/-- weight.Less. -/
theorem less_any (a b : Int) (w : World) (h0 : 0 ≤ a) (h1 : a < 18446744073709551616) (h2 : 0 ≤ b) (h3 : b < 18446744073709551616) : Calls Try.prog 16 #[.int .u64 a, .int .u64 b] w fun e w' => e = .returned (.bool (lessB a b)) ∧ w = w' := by
  have HA := Lib.hid (show 0 ≤ a ∧ a < 18446744073709551616 from ⟨h0, h1⟩)
  have HB := Lib.hid (show 0 ≤ b ∧ b < 18446744073709551616 from ⟨h2, h3⟩)
  clear h0 h1 h2 h3
  go_enter Try.func16, Try.ntmps16
  go_wp2_with (first
    | (go_at_call 21; ((with_reducible refine (place_any a _ HA.out.1 HA.out.2).mono ?_); rintro e w' ⟨rfl, rfl⟩))
    | (go_at_call 21; ((with_reducible refine (place_any b _ HB.out.1 HB.out.2).mono ?_); rintro e w' ⟨rfl, rfl⟩)))
  go_ret
  exact ⟨by unfold lessB; rfl, rfl⟩
/-- wealdref02.Less. -/
theorem refLess_any (a b : Int) (w : World) (h0 : 0 ≤ a) (h1 : a < 18446744073709551616) (h2 : 0 ≤ b) (h3 : b < 18446744073709551616) : Calls Try.prog 17 #[.int .u64 a, .int .u64 b] w fun e w' => e = .returned (.bool (lessB a b)) ∧ w = w' := by
  have HR : Hid (lessB a b = if 9223372036854775808 ≤ a then (if 9223372036854775808 ≤ b then decide (b < a) else true) else (if 9223372036854775808 ≤ b then false else decide (a < b))) := by
    show _ = _
    unfold lessB pl
    by_cases x : 9223372036854775808 ≤ a <;> by_cases y : 9223372036854775808 ≤ b <;> simp only [x, y, if_true, if_false] <;> (rw [Bool.eq_iff_iff]; simp; try omega)
  clear h0 h1 h2 h3
  by_cases x : 9223372036854775808 ≤ a <;> by_cases y : 9223372036854775808 ≤ b
  · have dx : decide (9223372036854775808 ≤ a) = true := by simpa using x
    have dy : decide (9223372036854775808 ≤ b) = true := by simpa using y
    have H2 := Lib.hid (show lessB a b = decide (b < a) from by rw [HR.out, if_pos x, if_pos y])
    clear x y
    go_enter Try.func17, Try.ntmps17
    go_wp2
    go_ret
    exact ⟨by rw [H2.out]; rfl, rfl⟩
  · have dx : decide (9223372036854775808 ≤ a) = true := by simpa using x
    have dy : decide (9223372036854775808 ≤ b) = false := by simpa using y
    have H2 := Lib.hid (show lessB a b = true from by rw [HR.out, if_pos x, if_neg y])
    clear x y
    go_enter Try.func17, Try.ntmps17
    go_wp2
    go_ret
    exact ⟨by rw [H2.out]; rfl, rfl⟩
  · have dx : decide (9223372036854775808 ≤ a) = false := by simpa using x
    have dy : decide (9223372036854775808 ≤ b) = true := by simpa using y
    have H2 := Lib.hid (show lessB a b = false from by rw [HR.out, if_neg x, if_pos y])
    clear x y
    go_enter Try.func17, Try.ntmps17
    go_wp2
    go_ret
    exact ⟨by rw [H2.out]; rfl, rfl⟩
  · have dx : decide (9223372036854775808 ≤ a) = false := by simpa using x
    have dy : decide (9223372036854775808 ≤ b) = false := by simpa using y
    have H2 := Lib.hid (show lessB a b = decide (a < b) from by rw [HR.out, if_neg x, if_neg y])
    clear x y
    go_enter Try.func17, Try.ntmps17
    go_wp2
    go_ret
    exact ⟨by rw [H2.out]; rfl, rfl⟩

/-- A slice of words that lies in memory. -/
def Words (w : World) (A : Option Addr) (l : List Int) : Prop :=
  l.length ≤ 9223372036854775807 ∧ (∀ n ∈ l, 0 ≤ n ∧ n < 18446744073709551616) ∧ (0 < l.length → ∃ b off, A = some ⟨b, off, none⟩ ∧ ∀ i, i < l.length → w.cell? ⟨b, off + i, none⟩ = some (.int .u64 (l.getD i 0)))
theorem getD_mem {l : List Int} {k : Nat} (h : k < l.length) : l.getD k 0 ∈ l := by
  rw [List.getD_eq_getElem?_getD, List.getElem?_eq_getElem h]; exact List.getElem_mem h
/-- The greater one; the greatest one of the first k. -/
def up (g x : Int) : Int := if lessB g x then x else g
def top (l : List Int) : Nat → Int
  | 0 => 0
  | 1 => l.getD 0 0
  | k + 2 => up (top l (k + 1)) (l.getD (k + 1) 0)
theorem top_succ (l : List Int) (k : Nat) (h : 0 < k) : top l (k + 1) = up (top l k) (l.getD k 0) := by
  cases k with
  | zero => omega
  | succ k => rfl
theorem top_range {l : List Int} (hl : ∀ n ∈ l, 0 ≤ n ∧ n < 18446744073709551616) : ∀ k, k ≤ l.length → 0 ≤ top l k ∧ top l k < 18446744073709551616
  | 0, _ => by unfold top; omega
  | 1, h => by unfold top; exact hl _ (getD_mem (by omega))
  | k + 2, h => by
    have ih := top_range hl (k + 1) (by omega)
    have hx := hl _ (getD_mem (show k + 1 < l.length by omega))
    unfold top up
    split
    · exact hx
    · exact ih
def greatest (l : List Int) : Int := top l l.length
/-- Is there one? -/
def hasB (l : List Int) : Bool := decide (0 < l.length)
attribute [irreducible] top hasB

/-- weight.last by Less. -/
theorem last_any (A : Option Addr) (c : Nat) (l : List Int) (w : World) (hl : Words w A l) :
    Calls Try.prog 20 #[.slice A l.length c, .func (.func 16) #[] #[]] w fun e w' => e = .returned (.tuple #[.int .u64 (greatest l), .bool (hasB l)]) ∧ w = w' := by
  obtain ⟨hm, hb, hc⟩ := hl
  have HC := Lib.hid hc
  have HB := Lib.hid hb
  clear hc hb
  have h0 := show top l 0 = 0 from by unfold top; rfl
  have H0 := Lib.hid h0
  clear h0
  go_enter Try.func20, Try.ntmps20
  go_wp2
  go_loop [6, 11] (fun g i => ∃ k : Nat, k ≤ l.length ∧ i = .int .i64 k ∧ g = .int .u64 (top l k)) (fun _ i => l.length - (intOf i).toNat)
  case atStart => exact ⟨0, Nat.zero_le _, rfl, by rw [H0.out]⟩
  case round =>
    obtain ⟨k, hk, rfl, rfl⟩ := hrel
    by_cases hlt : k < l.length
    · obtain ⟨b, off, hA, hcs⟩ := HC.out (by omega)
      have hcell := hcs k hlt
      clear hcs
      subst hA
      have HX := Lib.hid (HB.out (l.getD k 0) (getD_mem hlt))
      have HG := Lib.hid (top_range HB.out k hk)
      by_cases hz : k = 0
      · subst hz
        have HS := Lib.hid (show top l 1 = l.getD 0 0 from by unfold top; rfl)
        simp only [Nat.add_zero] at hcell
        generalize l.getD 0 0 = x at hcell HX HS
        go_wp2
        go_round
        case rel => exact ⟨1, by omega, by go_num, by rw [HS.out]⟩
        case measure => simp [intOf]; omega
      · have HS := Lib.hid (top_succ l k (by omega))
        have hk0 : ((k : Int) == 0) = false := by simp; omega
        generalize l.getD k 0 = x at hcell HX HS
        by_cases hq : lessB (top l k) x = true
        · have HQ := Lib.hid (show top l (k + 1) = x from by rw [HS.out]; unfold up; rw [if_pos hq])
          go_wp2_with (go_at_call 16; ((with_reducible refine (less_any _ _ _ HG.out.1 HG.out.2 HX.out.1 HX.out.2).mono ?_); rintro e w' ⟨rfl, rfl⟩))
          go_round
          case rel => exact ⟨k + 1, by omega, by go_num, by rw [HQ.out]⟩
          case measure => simp [intOf]; omega
        · have hq' : lessB (top l k) x = false := by simpa using hq
          clear hq
          have HQ := Lib.hid (show top l (k + 1) = top l k from by rw [HS.out]; unfold up; rw [if_neg (by rw [hq']; simp)])
          go_wp2_with (go_at_call 16; ((with_reducible refine (less_any _ _ _ HG.out.1 HG.out.2 HX.out.1 HX.out.2).mono ?_); rintro e w' ⟨rfl, rfl⟩))
          go_round
          case rel => exact ⟨k + 1, by omega, by go_num, by rw [HQ.out]⟩
          case measure => simp [intOf]; omega
    · obtain rfl : k = l.length := by omega
      go_wp2
      all_goals go_ret2
      all_goals exact ⟨by unfold greatest hasB; simp, rfl⟩

/-- weight.Greatest. -/
theorem greatest_any (A : Option Addr) (c n : Nat) (l : List Int) (hn : n = l.length) (w : World) (hl : Words w A l) :
    Calls Try.prog 12 #[.slice A n c] w fun e w' => e = .returned (.tuple #[.int .u64 (greatest l), .bool (hasB l)]) ∧ w = w' := by
  subst hn
  have HL := Lib.hid hl
  clear hl
  go_enter Try.func12, Try.ntmps12
  go_wp2_with (go_at_call 20; ((with_reducible refine (last_any A c l _ HL.out).mono ?_); rintro e w' ⟨rfl, rfl⟩))
  go_ret2
  exact ⟨rfl, rfl⟩
/-- wealdref02.Greatest. -/
theorem refGreatest_any (A : Option Addr) (c n : Nat) (l : List Int) (hn : n = l.length) (w : World) (hl : Words w A l) :
    Calls Try.prog 13 #[.slice A n c] w fun e w' => e = .returned (.tuple #[.int .u64 (greatest l), .bool (hasB l)]) ∧ w = w' := by
  subst hn
  obtain ⟨hm, hb, hc⟩ := hl
  have HC := Lib.hid hc
  have HB := Lib.hid hb
  clear hc hb
  by_cases hz : l.length = 0
  · obtain rfl : l = [] := List.eq_nil_of_length_eq_zero hz
    have HG := Lib.hid (show greatest [] = 0 from by unfold greatest top; rfl)
    have hz' : ((([] : List Int).length : Int) == 0) = true := by simp
    go_enter Try.func13, Try.ntmps13
    go_wp2
    go_ret2
    exact ⟨by rw [HG.out]; unfold hasB; rfl, rfl⟩
  · have hz' : ((l.length : Int) == 0) = false := by simp; intro h; exact hz (by rw [h]; rfl)
    have hp : (0 : Int) < (l.length : Int) := by omega
    obtain ⟨b, off, hA, hcs⟩ := HC.out (by omega)
    have hcell0 := hcs 0 (by omega)
    simp only [Nat.add_zero] at hcell0
    have HCS := Lib.hid hcs
    clear hcs
    subst hA
    have HS0 := Lib.hid (show top l 1 = l.getD 0 0 from by unfold top; rfl)
    generalize l.getD 0 0 = x0 at hcell0 HS0
    go_enter Try.func13, Try.ntmps13
    go_wp2
    go_loop [4, 5] (fun g i => ∃ k : Nat, 1 ≤ k ∧ k ≤ l.length ∧ i = .int .i64 k ∧ g = .int .u64 (top l k)) (fun _ i => l.length - (intOf i).toNat)
    case atStart => exact ⟨1, by omega, by omega, rfl, by rw [HS0.out]⟩
    case round =>
      obtain ⟨k, hk1, hk, rfl, rfl⟩ := hrel
      by_cases hlt : k < l.length
      · have hcell := HCS.out k hlt
        have HX := Lib.hid (HB.out (l.getD k 0) (getD_mem hlt))
        have HG := Lib.hid (top_range HB.out k hk)
        have HS := Lib.hid (top_succ l k (by omega))
        generalize l.getD k 0 = x at hcell HX HS
        by_cases hq : lessB (top l k) x = true
        · have HQ := Lib.hid (show top l (k + 1) = x from by rw [HS.out]; unfold up; rw [if_pos hq])
          go_wp2_with (go_at_call 17; ((with_reducible refine (refLess_any _ _ _ HG.out.1 HG.out.2 HX.out.1 HX.out.2).mono ?_); rintro e w' ⟨rfl, rfl⟩))
          go_round
          case rel => exact ⟨k + 1, by omega, by omega, by go_num, by rw [HQ.out]⟩
          case measure => simp [intOf]; omega
        · have hq' : lessB (top l k) x = false := by simpa using hq
          clear hq
          have HQ := Lib.hid (show top l (k + 1) = top l k from by rw [HS.out]; unfold up; rw [if_neg (by rw [hq']; simp)])
          go_wp2_with (go_at_call 17; ((with_reducible refine (refLess_any _ _ _ HG.out.1 HG.out.2 HX.out.1 HX.out.2).mono ?_); rintro e w' ⟨rfl, rfl⟩))
          go_round
          case rel => exact ⟨k + 1, by omega, by omega, by go_num, by rw [HQ.out]⟩
          case measure => simp [intOf]; omega
      · obtain rfl : k = l.length := by omega
        have HD := Lib.hid (show hasB l = true from by unfold hasB; simp; omega)
        go_wp2
        all_goals go_ret2
        all_goals exact ⟨by rw [HD.out]; unfold greatest; rfl, rfl⟩
end Go.Proofs.Ytmcfmikpcmbmbaa
