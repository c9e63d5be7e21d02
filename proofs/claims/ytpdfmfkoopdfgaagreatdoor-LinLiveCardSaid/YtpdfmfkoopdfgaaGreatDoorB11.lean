/- LSmall. -/
import Derived.Test.YtpdfmfkoopdfgaaGreatDoorB09
import Derived.Test.YtpdfmfkoopdfgaaGreatDoorB10
set_option linter.unusedVariables false
set_option linter.unusedSimpArgs false
namespace Go.Proofs.YtpdfmfkoopdfgaaGreatDoor
set_option maxRecDepth 100000
open Go.RowKit Aid Gr Hs

def turnsB (k : Int) : Bool := decide (k = 11 ∨ k = 12 ∨ k = 14 ∨ k = 15)
/-- Is a point answered so? -/
def fitR (p : Pt) (a : Ans) : Bool := decide (p.err = a.err ∧ p.is = a.is ∧ (p.any = true ∨ (p.w = a.w ∧ p.n = a.n)))
def fitP (p : Pt) (a : Ans) : Bool := !p.must || fitR p a
def Hs.Pt.val (p : Pt) : Value := .agg #[.int .i64 p.k, .int .i64 p.u, .int .i64 p.v, .int .u64 p.x, .int .i64 p.err, .bool p.is, .int .i64 p.n, .int .u64 p.w, .slice none 0 0, .bool p.any, .int .i64 p.fr, .int .i64 p.to, .int .i64 p.era, .bool p.must]
theorem turns_any (k : Int) (w : World) : Calls Tryz.prog 95 #[.int .i64 k] w fun e w' => e = .returned (.bool (turnsB k)) ∧ w = w' := by
  by_cases h0 : k = 11
  · have f0 : (k == 11) = true := by simpa using h0
    have hr : turnsB k = true := decide_eq_true (by omega)
    rw [hr]
    clear hr h0
    go_enter Tryz.func95, Tryz.ntmps95
    go_wp2
    go_ret
    exact ⟨rfl, rfl⟩
  · have f0 : (k == 11) = false := by simpa using h0
    by_cases h1 : k = 12
    · have f1 : (k == 12) = true := by simpa using h1
      have hr : turnsB k = true := decide_eq_true (by omega)
      rw [hr]
      clear hr h1
      go_enter Tryz.func95, Tryz.ntmps95
      go_wp2
      go_ret
      exact ⟨rfl, rfl⟩
    · have f1 : (k == 12) = false := by simpa using h1
      by_cases h2 : k = 14
      · have f2 : (k == 14) = true := by simpa using h2
        have hr : turnsB k = true := decide_eq_true (by omega)
        rw [hr]
        clear hr h2
        go_enter Tryz.func95, Tryz.ntmps95
        go_wp2
        go_ret
        exact ⟨rfl, rfl⟩
      · have f2 : (k == 14) = false := by simpa using h2
        by_cases h3 : k = 15
        · have f3 : (k == 15) = true := by simpa using h3
          have hr : turnsB k = true := decide_eq_true (by omega)
          rw [hr]
          clear hr h3
          go_enter Tryz.func95, Tryz.ntmps95
          go_wp2
          go_ret
          exact ⟨rfl, rfl⟩
        · have f3 : (k == 15) = false := by simpa using h3
          have hr : turnsB k = false := decide_eq_false (by omega)
          rw [hr]
          clear hr
          go_enter Tryz.func95, Tryz.ntmps95
          go_wp2
          go_ret
          exact ⟨rfl, rfl⟩
set_option maxHeartbeats 4000000 in
theorem fits_any (p : Pt) (a : Ans) (A : Option Addr) (c : Nat) (w : World) : Calls Tryz.prog 97 #[p.val, a.val A c] w fun e w' => e = .returned (.bool (fitP p a)) ∧ Below w.heap.size w w' := by
  obtain ⟨k, u, v, x, e1, i1, n1, w1, an, fr, to, era, mu⟩ := p
  obtain ⟨e2, i2, n2, w2', l2⟩ := a
  have HB : Hid (∀ o1 o2, Below w.heap.size w ((w.alloc o1).alloc o2)) := Lib.hid fun o1 o2 => ((Below.refl w.heap.size w).alloc (Nat.le_refl _) o1).alloc (by rw [World.size_alloc]; omega) o2
  obtain ⟨B, hB⟩ : ∃ B, B = fitP ⟨k, u, v, x, e1, i1, n1, w1, an, fr, to, era, mu⟩ ⟨e2, i2, n2, w2', l2⟩ := ⟨_, rfl⟩
  rw [← hB]
  unfold Pt.val Ans.val
  simp only
  cases mu
  · skip
    obtain rfl : B = true := hB.trans (by clear HB; unfold fitP fitR; simp_all)
    clear hB
    go_enter Tryz.func97, Tryz.ntmps97
    go_wp2
    go_ret
    exact ⟨rfl, HB.out _ _⟩
  · skip
    by_cases h1 : e1 = e2
    rotate_left
    · have g1 : (e1 == e2) = false := by simpa using h1
      have g1' : (e1 != e2) = true := by simpa using h1
      obtain rfl : B = false := hB.trans (by clear HB; unfold fitP fitR; simp_all)
      clear hB
      go_enter Tryz.func97, Tryz.ntmps97
      go_wp2
      go_ret
      exact ⟨rfl, HB.out _ _⟩
    subst h1
    by_cases h2 : i1 = i2
    rotate_left
    · have g2 : (i1 == i2) = false := by simpa using h2
      have g2' : (i1 != i2) = true := by simpa using h2
      obtain rfl : B = false := hB.trans (by clear HB; unfold fitP fitR; simp_all)
      clear hB
      go_enter Tryz.func97, Tryz.ntmps97
      go_wp2
      go_ret
      exact ⟨rfl, HB.out _ _⟩
    subst h2
    cases an
    rotate_left
    · skip
      obtain rfl : B = true := hB.trans (by clear HB; unfold fitP fitR; simp_all)
      clear hB
      go_enter Tryz.func97, Tryz.ntmps97
      go_wp2
      go_ret
      exact ⟨rfl, HB.out _ _⟩
    by_cases h3 : w1 = w2'
    rotate_left
    · have g3 : (w1 == w2') = false := by simpa using h3
      obtain rfl : B = false := hB.trans (by clear HB; unfold fitP fitR; simp_all)
      clear hB
      go_enter Tryz.func97, Tryz.ntmps97
      go_wp2
      go_ret
      exact ⟨rfl, HB.out _ _⟩
    subst h3
    by_cases h4 : n1 = n2
    rotate_left
    · have g4 : (n1 == n2) = false := by simpa using h4
      obtain rfl : B = false := hB.trans (by clear HB; unfold fitP fitR; simp_all)
      clear hB
      go_enter Tryz.func97, Tryz.ntmps97
      go_wp2
      go_ret
      exact ⟨rfl, HB.out _ _⟩
    subst h4
    obtain rfl : B = true := hB.trans (by clear HB; unfold fitP fitR; simp_all)
    clear hB
    go_enter Tryz.func97, Tryz.ntmps97
    go_wp2
    go_ret
    exact ⟨rfl, HB.out _ _⟩
end Go.Proofs.YtpdfmfkoopdfgaaGreatDoor
