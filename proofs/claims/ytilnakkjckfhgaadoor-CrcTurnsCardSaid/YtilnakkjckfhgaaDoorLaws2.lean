/- The walk through the statement CrcParts. -/
import Derived.Test.YtilnakkjckfhgaaDoorLaws1
import Derived.Deep.QuietTactic
import Derived.BigQuiet
import Derived.Deep.RegionWith
namespace Go.Proofs.YtilnakkjckfhgaaDoor
open Go.RowKit

theorem quiet_left {P : Program} {f : FuncId} {args : Array Value} {w : World} {n : Nat} {v : Value}
    (h : Calls P f args (w.drewN n) fun e w' => e = .returned v ∧ w.drewN n = w') : Calls P f args (w.drewN n) fun e w'' => e = .returned v ∧ ∃ m, w'' = w.drewN m :=
  h.mono fun _ _ ⟨he, hm⟩ => ⟨he, n, hm.symm⟩
theorem Tab.drewN {w : World} (h : Tab w) (n : Nat) : Tab (w.drewN n) := h
theorem Bytes.drewN {w : World} {A : Option Addr} {l : List Int} (h : Bytes w A l) (n : Nat) : Bytes (w.drewN n) A l := h
theorem Bytes.nil_ {w : World} (A : Option Addr) : Bytes w A [] := ⟨by simp, by simp, fun h => by simp at h⟩
theorem Bytes.cut {w : World} {A : Option Addr} {l : List Int} (h : Bytes w A l) (c k : Nat) (hc : l.length ≤ c) (hk : k ≤ l.length) : Bytes w (if c = k then A else A.map (·.add k)) (l.drop k) := by
  by_cases e : k = l.length
  · subst e; rw [List.drop_length]; exact Bytes.nil_ _
  · obtain ⟨b, off, rfl, _⟩ := h.2.2 (by omega)
    rw [if_neg (by omega)]
    have := h.drop k
    rw [show (some (⟨b, off, none⟩ : Addr)).map (·.add k) = some ⟨b, off + k, none⟩ from by simp [Addr.add]]
    exact this
theorem below_drewN {B : Nat} {a w : World} (h : Below B a w) (n : Nat) : Below B a (w.drewN n) := ⟨h.os, h.tape, h.output, h.size, h.block⟩
theorem parts_walk (i j : Int) (hi0 : 0 ≤ i) (hi1 : i < 65536) (hj0 : 0 ≤ j) (hj1 : j < 65536) (A : Option Addr) (c : Nat) (l : List Int) (hlc : l.length ≤ c) (hc : c ≤ 9223372036854775807) (w : World) (ht : Tab w) (hl : Bytes w A l) :
    Calls Tryd.prog 7 #[.slice A l.length c, .int .u16 i, .int .u16 j] w fun e w' => e = .returned (.bool true) ∧ Below w.heap.size w w' := by
  have HT := Lib.hid ht
  have HL := Lib.hid hl
  clear ht hl
  by_cases hlen : 600 < l.length
  · go_enter Tryd.func7, Tryd.ntmps7
    go_wp2_with (go_at_call 10; refine (shown_any _ HT.out).mono ?_; rintro e w1 ⟨rfl, hb⟩)
    go_ret
    exact ⟨rfl, hb⟩
  · obtain ⟨x, hx, hxn⟩ : ∃ x : Nat, i % ((l.length : Int) + 1) = (x : Int) ∧ x ≤ l.length := by
      have h1 := Int.emod_nonneg i (show (l.length : Int) + 1 ≠ 0 by omega)
      have h2 := Int.emod_lt_of_pos i (show 0 < (l.length : Int) + 1 by omega)
      exact ⟨(i % ((l.length : Int) + 1)).toNat, by omega, by omega⟩
    obtain ⟨z, hz, hzn⟩ : ∃ z : Nat, j % ((l.length : Int) - (x : Int) + 1) = (z : Int) ∧ x + z ≤ l.length := by
      have h1 := Int.emod_nonneg j (show (l.length : Int) - (x : Int) + 1 ≠ 0 by omega)
      have h2 := Int.emod_lt_of_pos j (show 0 < (l.length : Int) - (x : Int) + 1 by omega)
      exact ⟨(j % ((l.length : Int) - (x : Int) + 1)).toNat, by omega, by omega⟩
    have H1 : Hid (x = (l.take x).length) := by show _ = _; rw [List.length_take]; omega
    have H2 : Hid (z = ((l.drop x).take z).length) := by show _ = _; rw [List.length_take, List.length_drop]; omega
    have H3 : Hid (l.length - (x + z) = (l.drop (x + z)).length) := by show _ = _; rw [List.length_drop]
    have hsum : N (Plain.more (Plain.more (sum (l.take x)) (((l.drop x).take z).map W)) ((l.drop (x + z)).map W)) = N (sum l) := by
      unfold sum
      rw [Plain.more_append, Plain.more_append, ← List.map_append, ← List.map_append, show l.drop (x + z) = (l.drop x).drop z from by rw [List.drop_drop], List.take_append_drop, List.take_append_drop]
    simp only [List.map_take, List.map_drop] at hsum
    have hxc : x ≤ c := by omega
    have hzc : x + z ≤ c := by omega
    go_enter Tryd.func7, Tryd.ntmps7
    go_wp2_with (first
      | (go_at_call 10; refine (shown_any _ HT.out).mono ?_; rintro e w1 ⟨rfl, hb⟩; have HT1 := Lib.hid (HT.out.below hb HT.out.heap); have HL1 := Lib.hid (HL.out.below hb (Nat.le_refl _)); have HB := Lib.hid hb; clear hb))
    go_quiet ((first
      | (go_at_call 11; (with_reducible refine quiet_left (sum_at A c x (l.take x) H1.out _ ?_ ?_)); exact HT1.out; exact HL1.out.take x)
      | (go_at_call_of 13 (Value.int .u32 (N (sum (l.take x)))); (with_reducible refine quiet_left (more_at _ _ rfl _ _ z ((l.drop x).take z) H2.out _ ?_ ?_)); exact HT1.out; exact (HL1.out.cut c x hlc hxn).take z)
      | (go_at_call 13; (with_reducible refine quiet_left (more_at _ _ rfl _ _ (l.length - (x + z)) (l.drop (x + z)) H3.out _ ?_ ?_)); exact HT1.out; exact HL1.out.cut c (x + z) hlc hzn)
      | (go_at_call 11; (with_reducible refine quiet_left (sum_at A c l.length l rfl _ ?_ ?_)); exact HT1.out; exact HL1.out)
      | (trace_state; fail)))
    generalize (if c = x then A else Option.map (fun a => a.add x) A) = A1
    generalize (if c = x + z then A else Option.map (fun a => a.add (x + z)) A) = A2
    go_wp2
    go_ret
    exact ⟨rfl, below_drewN HB.out _⟩
end Go.Proofs.YtilnakkjckfhgaaDoor
