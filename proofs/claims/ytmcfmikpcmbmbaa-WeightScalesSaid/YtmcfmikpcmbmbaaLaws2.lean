/- The walk through the statement WeightOrder. -/
import Derived.Test.YtmcfmikpcmbmbaaLaws1
namespace Go.Proofs.Ytmcfmikpcmbmbaa
open Go.RowKit

theorem grt (a b c : Int) (w : World) (hr : ∀ n ∈ [a, b, c], 0 ≤ n ∧ n < 18446744073709551616) (g : Int) (hg : greatest [a, b, c] = g) :
    Calls Try.prog 12 #[.slice (some ⟨w.heap.size, 0, none⟩) 3 3] (w.alloc (.cells #[.int .u64 a, .int .u64 b, .int .u64 c] 22)) fun e w' => e = .returned (.tuple #[.int .u64 g, .bool true]) ∧ (w.alloc (.cells #[.int .u64 a, .int .u64 b, .int .u64 c] 22)) = w' := by
  have := greatest_any (some ⟨w.heap.size, 0, none⟩) 3 3 [a, b, c] rfl _ (Sh.start a b c hr w).1
  rwa [hg, show hasB [a, b, c] = true from by unfold hasB; simp] at this
theorem less_tt {a b : Int} (h : lessB a b = true) : pl a < pl b := by unfold lessB at h; simpa using h
theorem less_ff {a b : Int} (h : lessB a b = false) : ¬ pl a < pl b := by unfold lessB at h; simpa using h
theorem less_t {a b : Int} (h : pl a < pl b) : lessB a b = true := by unfold lessB; simpa using h
theorem less_f {a b : Int} (h : ¬ pl a < pl b) : lessB a b = false := by unfold lessB; simpa using h
theorem pl_inj {a b : Int} (h0 : 0 ≤ a) (h1 : a < 18446744073709551616) (h2 : 0 ≤ b) (h3 : b < 18446744073709551616) (h : pl a = pl b) : a = b := by
  unfold pl at h
  split at h <;> split at h <;> omega
theorem ne_of_pl {a b : Int} (h : pl a ≠ pl b) : (a == b) = false := by
  rw [beq_eq_false_iff_ne]
  exact fun e => h (by rw [e])

def Rng (a : Int) : Prop := 0 ≤ a ∧ a < 18446744073709551616
theorem order_walk (a b c : Int) (ha : Rng a) (hb : Rng b) (hc : Rng c) (w : World) : Calls Try.prog 7 #[.int .u64 a, .int .u64 b, .int .u64 c] w fun e w' => e = .returned (.bool true) ∧ Below w.heap.size w w' := by
  have HA := Lib.hid (show 0 ≤ a ∧ a < 18446744073709551616 from ha)
  have HB := Lib.hid (show 0 ≤ b ∧ b < 18446744073709551616 from hb)
  have HC := Lib.hid (show 0 ≤ c ∧ c < 18446744073709551616 from hc)
  have HR := Lib.hid (show ∀ n ∈ [a, b, c], 0 ≤ n ∧ n < 18446744073709551616 from by
    intro n hn
    simp only [List.mem_cons, List.not_mem_nil, or_false] at hn
    rcases hn with rfl | rfl | rfl
    · exact ha
    · exact hb
    · exact hc)
  clear ha hb hc
  rcases Int.lt_trichotomy (pl a) (pl b) with x | x | x
  · by_cases y : pl b < pl c
    · have ab := less_t (a := a) (b := b) (by omega)
      have ba := less_f (a := b) (b := a) (by omega)
      have bc := less_t (a := b) (b := c) (by omega)
      have ac := less_t (a := a) (b := c) (by omega)
      have ca := less_f (a := c) (b := a) (by omega)
      have cb := less_f (a := c) (b := b) (by omega)
      have cc := less_f (a := c) (b := c) (by omega)
      have n1 := ne_of_pl (a := c) (b := a) (by omega)
      have n2 := ne_of_pl (a := c) (b := b) (by omega)
      have HG := Lib.hid (show greatest [a, b, c] = c from by rw [g_three]; unfold up; simp only [ab, bc, if_true])
      clear x y
      go_enter Try.func7, Try.ntmps7
      go_wp2_with (first
        | (go_at_call 11; ((with_reducible refine (shown_any _).mono ?_); rintro e w1 ⟨rfl, hb⟩; have HW := Lib.hid hb; clear hb))
        | (go_at_call 12; ((with_reducible refine (grt a b c _ HR.out c HG.out).mono ?_); rintro e w' ⟨rfl, rfl⟩))
        | (go_at_call 16; ((with_reducible refine (less_any _ _ _ ?_ ?_ ?_ ?_).mono ?_); (first | exact HA.out.1 | exact HB.out.1 | exact HC.out.1); (first | exact HA.out.2 | exact HB.out.2 | exact HC.out.2); (first | exact HA.out.1 | exact HB.out.1 | exact HC.out.1); (first | exact HA.out.2 | exact HB.out.2 | exact HC.out.2); rintro e w' ⟨rfl, rfl⟩)))
      go_ret
      exact ⟨rfl, HW.out.alloc HW.out.size _⟩
    · have ab := less_t (a := a) (b := b) (by omega)
      have ba := less_f (a := b) (b := a) (by omega)
      have bc := less_f (a := b) (b := c) (by omega)
      have bb := less_f (a := b) (b := b) (by omega)
      have n1 := ne_of_pl (a := b) (b := a) (by omega)
      have HG := Lib.hid (show greatest [a, b, c] = b from by rw [g_three]; unfold up; simp only [ab, bc, Bool.false_eq_true, if_true, if_false])
      clear x y
      go_enter Try.func7, Try.ntmps7
      go_wp2_with (first
        | (go_at_call 11; ((with_reducible refine (shown_any _).mono ?_); rintro e w1 ⟨rfl, hb⟩; have HW := Lib.hid hb; clear hb))
        | (go_at_call 12; ((with_reducible refine (grt a b c _ HR.out b HG.out).mono ?_); rintro e w' ⟨rfl, rfl⟩))
        | (go_at_call 16; ((with_reducible refine (less_any _ _ _ ?_ ?_ ?_ ?_).mono ?_); (first | exact HA.out.1 | exact HB.out.1 | exact HC.out.1); (first | exact HA.out.2 | exact HB.out.2 | exact HC.out.2); (first | exact HA.out.1 | exact HB.out.1 | exact HC.out.1); (first | exact HA.out.2 | exact HB.out.2 | exact HC.out.2); rintro e w' ⟨rfl, rfl⟩)))
      go_ret
      exact ⟨rfl, HW.out.alloc HW.out.size _⟩
  · obtain rfl := pl_inj HA.out.1 HA.out.2 HB.out.1 HB.out.2 x
    by_cases y : pl a < pl c
    · have aa := less_f (a := a) (b := a) (by omega)
      have ac := less_t (a := a) (b := c) (by omega)
      have ca := less_f (a := c) (b := a) (by omega)
      have cc := less_f (a := c) (b := c) (by omega)
      have n1 := ne_of_pl (a := c) (b := a) (by omega)
      have HG := Lib.hid (show greatest [a, a, c] = c from by rw [g_three]; unfold up; simp only [aa, ac, Bool.false_eq_true, if_true, if_false])
      clear x y
      go_enter Try.func7, Try.ntmps7
      go_wp2_with (first
        | (go_at_call 11; ((with_reducible refine (shown_any _).mono ?_); rintro e w1 ⟨rfl, hb⟩; have HW := Lib.hid hb; clear hb))
        | (go_at_call 12; ((with_reducible refine (grt a a c _ HR.out c HG.out).mono ?_); rintro e w' ⟨rfl, rfl⟩))
        | (go_at_call 16; ((with_reducible refine (less_any _ _ _ ?_ ?_ ?_ ?_).mono ?_); (first | exact HA.out.1 | exact HB.out.1 | exact HC.out.1); (first | exact HA.out.2 | exact HB.out.2 | exact HC.out.2); (first | exact HA.out.1 | exact HB.out.1 | exact HC.out.1); (first | exact HA.out.2 | exact HB.out.2 | exact HC.out.2); rintro e w' ⟨rfl, rfl⟩)))
      go_ret
      exact ⟨rfl, HW.out.alloc HW.out.size _⟩
    · have aa := less_f (a := a) (b := a) (by omega)
      have ac := less_f (a := a) (b := c) (by omega)
      have HG := Lib.hid (show greatest [a, a, c] = a from by rw [g_three]; unfold up; simp only [aa, ac, Bool.false_eq_true, if_false])
      clear x y
      go_enter Try.func7, Try.ntmps7
      go_wp2_with (first
        | (go_at_call 11; ((with_reducible refine (shown_any _).mono ?_); rintro e w1 ⟨rfl, hb⟩; have HW := Lib.hid hb; clear hb))
        | (go_at_call 12; ((with_reducible refine (grt a a c _ HR.out a HG.out).mono ?_); rintro e w' ⟨rfl, rfl⟩))
        | (go_at_call 16; ((with_reducible refine (less_any _ _ _ ?_ ?_ ?_ ?_).mono ?_); (first | exact HA.out.1 | exact HB.out.1 | exact HC.out.1); (first | exact HA.out.2 | exact HB.out.2 | exact HC.out.2); (first | exact HA.out.1 | exact HB.out.1 | exact HC.out.1); (first | exact HA.out.2 | exact HB.out.2 | exact HC.out.2); rintro e w' ⟨rfl, rfl⟩)))
      go_ret
      exact ⟨rfl, HW.out.alloc HW.out.size _⟩
  · by_cases y : pl a < pl c
    · have ab := less_f (a := a) (b := b) (by omega)
      have ba := less_t (a := b) (b := a) (by omega)
      have bc := less_t (a := b) (b := c) (by omega)
      have ac := less_t (a := a) (b := c) (by omega)
      have ca := less_f (a := c) (b := a) (by omega)
      have cb := less_f (a := c) (b := b) (by omega)
      have cc := less_f (a := c) (b := c) (by omega)
      have n1 := ne_of_pl (a := c) (b := a) (by omega)
      have n2 := ne_of_pl (a := c) (b := b) (by omega)
      have HG := Lib.hid (show greatest [a, b, c] = c from by rw [g_three]; unfold up; simp only [ab, ac, Bool.false_eq_true, if_true, if_false])
      clear x y
      go_enter Try.func7, Try.ntmps7
      go_wp2_with (first
        | (go_at_call 11; ((with_reducible refine (shown_any _).mono ?_); rintro e w1 ⟨rfl, hb⟩; have HW := Lib.hid hb; clear hb))
        | (go_at_call 12; ((with_reducible refine (grt a b c _ HR.out c HG.out).mono ?_); rintro e w' ⟨rfl, rfl⟩))
        | (go_at_call 16; ((with_reducible refine (less_any _ _ _ ?_ ?_ ?_ ?_).mono ?_); (first | exact HA.out.1 | exact HB.out.1 | exact HC.out.1); (first | exact HA.out.2 | exact HB.out.2 | exact HC.out.2); (first | exact HA.out.1 | exact HB.out.1 | exact HC.out.1); (first | exact HA.out.2 | exact HB.out.2 | exact HC.out.2); rintro e w' ⟨rfl, rfl⟩)))
      go_ret
      exact ⟨rfl, HW.out.alloc HW.out.size _⟩
    · have ab := less_f (a := a) (b := b) (by omega)
      have ba := less_t (a := b) (b := a) (by omega)
      have ac := less_f (a := a) (b := c) (by omega)
      have aa := less_f (a := a) (b := a) (by omega)
      have HG := Lib.hid (show greatest [a, b, c] = a from by rw [g_three]; unfold up; simp only [ab, ac, Bool.false_eq_true, if_false])
      clear x y
      go_enter Try.func7, Try.ntmps7
      go_wp2_with (first
        | (go_at_call 11; ((with_reducible refine (shown_any _).mono ?_); rintro e w1 ⟨rfl, hb⟩; have HW := Lib.hid hb; clear hb))
        | (go_at_call 12; ((with_reducible refine (grt a b c _ HR.out a HG.out).mono ?_); rintro e w' ⟨rfl, rfl⟩))
        | (go_at_call 16; ((with_reducible refine (less_any _ _ _ ?_ ?_ ?_ ?_).mono ?_); (first | exact HA.out.1 | exact HB.out.1 | exact HC.out.1); (first | exact HA.out.2 | exact HB.out.2 | exact HC.out.2); (first | exact HA.out.1 | exact HB.out.1 | exact HC.out.1); (first | exact HA.out.2 | exact HB.out.2 | exact HC.out.2); rintro e w' ⟨rfl, rfl⟩)))
      go_ret
      exact ⟨rfl, HW.out.alloc HW.out.size _⟩
end Go.Proofs.Ytmcfmikpcmbmbaa
