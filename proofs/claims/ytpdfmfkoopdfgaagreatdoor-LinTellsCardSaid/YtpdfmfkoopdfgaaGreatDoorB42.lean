/- HIn. -/
import Derived.Test.YtpdfmfkoopdfgaaGreatDoorB10
set_option linter.unusedVariables false
namespace Go.Proofs.YtpdfmfkoopdfgaaGreatDoor.Hs
set_option maxRecDepth 100000
open Go.RowKit Aid

theorem in_yes {l : List Int} {j : Nat} {x : Int} (h : l[j]? = some x) : l.contains x = true := by
  rw [List.contains_iff_mem]; exact List.mem_of_getElem? h
theorem in_no {l : List Int} {j : Nat} {x : Int} (hj : j = l.length) (h : ∀ i, i < j → l[i]? ≠ some x) : l.contains x = false := by
  cases q : l.contains x
  · rfl
  · rw [List.contains_iff_mem] at q
    obtain ⟨i, hi, he⟩ := List.mem_iff_getElem.1 q
    exact absurd (by rw [List.getElem?_eq_getElem hi, he]) (h i (by omega))
set_option maxHeartbeats 8000000 in
set_option maxRecDepth 100000 in
theorem in_any (A : Option Addr) (c n : Nat) (l : List Int) (x : Int) (w : World) (hn : n = l.length) (hl : Sl w A (l.map (Value.int .i64))) (hb : l.length ≤ 9223372036854775807) :
    Calls Tryz.prog 47 #[.slice A n c, .int .i64 x] w fun e w' => e = .returned (.bool (l.contains x)) ∧ w = w' := by
  have HN := Lib.hid hn
  have HL := Lib.hid hl
  have nb : n ≤ 9223372036854775807 := by omega
  clear hn hl hb
  go_enter Tryz.func47, Tryz.ntmps47
  go_wp2
  go_loopw [5] (fun v wr => ∃ j : Nat, j ≤ n ∧ v = .int .i64 j ∧ (∀ i, i < j → l[i]? ≠ some x) ∧ wr = w) (fun v _ => n - (intOf v).toNat)
  case atStart => exact ⟨0, Nat.zero_le _, rfl, fun i hi => by omega, rfl⟩
  case round =>
    obtain ⟨j, hj, rfl, hg, rfl⟩ := hrel
    have HG := Lib.hid hg
    clear hg
    by_cases hlt : j < n
    · have j0 : (0 : Int) ≤ (j : Int) := by omega
      have j1 : (j : Int) < (n : Int) := by omega
      have n3 : IntKind.i64.wrap ((j : Int) + 1) = (j : Int) + 1 := by rw [IntKind.wrap_i64] <;> omega
      obtain ⟨y, hy⟩ : ∃ y, l[j]? = some y := ⟨l[j]'(by rw [← HN.out]; exact hlt), List.getElem?_eq_getElem _⟩
      obtain ⟨b, off, hA, hc⟩ := HL.out (by rw [List.length_map, ← HN.out]; omega)
      subst hA
      have cj := hc j (.int .i64 y) (by rw [List.getElem?_map, hy]; rfl)
      have HY := Lib.hid hy
      clear hc hy
      by_cases hyx : y = x
      · have t1 : (y == x) = true := by simpa using hyx
        have hx := Lib.hid (in_yes (show l[j]? = some x by rw [← hyx]; exact HY.out))
        clear hyx
        go_wp2
        go_ret
        exact ⟨by rw [hx.out]; rfl, rfl⟩
      · have t1 : (y == x) = false := by simpa using hyx
        have hst : Hid (∀ i, i < j + 1 → l[i]? ≠ some x) := Lib.hid fun i hi => by
          rcases Nat.lt_or_ge i j with q | q
          · exact HG.out i q
          · obtain rfl : i = j := by omega
            rw [HY.out]
            intro h; injection h with h; exact hyx h
        clear hyx
        go_wp2
        go_roundw
        case rel => exact ⟨j + 1, by omega, by go_num, hst.out, by first | rfl | trivial⟩
        case measure => simp [intOf]; omega
    · have hx := Lib.hid (in_no (l := l) (x := x) (j := j) (by have := HN.out; omega) HG.out)
      go_wp2
      go_ret
      exact ⟨by rw [hx.out]; rfl, by first | rfl | trivial⟩
end Go.Proofs.YtpdfmfkoopdfgaaGreatDoor.Hs
