/- The small functions of calls. -/
import Derived.Test.YthepgdfhdkhhbaaBase
namespace Go.Proofs.Ythepgdfhdkhhbaa
open Go.RowKit Aid

def beforeB (a b : Cl) : Bool := decide (a.era < b.era ∨ (a.era = b.era ∧ 0 ≤ a.to ∧ a.to < b.fr))
theorem before_any (a b : Cl) (w : World) : Calls Try.prog 15 #[a.val, b.val] w fun e w' => e = .returned (.bool (beforeB a b)) ∧ Below w.heap.size w w' := by
  have HA := Lib.hid (((Below.refl w.heap.size w).alloc (Nat.le_refl _) (.cells #[.int .i64 a.me, .int .i64 a.k, .int .i64 a.u, .int .i64 a.v, .int .u64 a.x, .int .i64 a.era, .int .i64 a.fr, .int .i64 a.to, .int .i64 a.err, .bool a.is, .int .i64 a.n, .int .u64 a.w, .slice a.A a.list.length a.cap] 32)).alloc (by rw [World.size_alloc]; omega) (.cells #[.int .i64 b.me, .int .i64 b.k, .int .i64 b.u, .int .i64 b.v, .int .u64 b.x, .int .i64 b.era, .int .i64 b.fr, .int .i64 b.to, .int .i64 b.err, .bool b.is, .int .i64 b.n, .int .u64 b.w, .slice b.A b.list.length b.cap] 32))
  unfold Cl.val
  by_cases h1 : a.era < b.era
  · have fh1_0 : decide (a.era < b.era) = true := by simpa using h1
    have hr : beforeB a b = true := decide_eq_true (by omega)
    rw [hr]
    clear hr h1
    go_enter Try.func15, Try.ntmps15
    go_wp2
    go_ret
    exact ⟨rfl, HA.out⟩
  · have fh1_0 : decide (a.era < b.era) = false := by simpa using h1
    by_cases h2 : a.era = b.era
    · have fh2_0 : (a.era == b.era) = true := by simpa using h2
      by_cases h3 : 0 ≤ a.to
      · have fh3_0 : decide (0 ≤ a.to) = true := by simpa using h3
        by_cases h4 : a.to < b.fr
        · have fh4_0 : decide (a.to < b.fr) = true := by simpa using h4
          have hr : beforeB a b = true := decide_eq_true (by omega)
          rw [hr]
          clear hr h1 h2 h3 h4
          go_enter Try.func15, Try.ntmps15
          go_wp2
          go_ret
          exact ⟨rfl, HA.out⟩
        · have fh4_0 : decide (a.to < b.fr) = false := by simpa using h4
          have hr : beforeB a b = false := decide_eq_false (by omega)
          rw [hr]
          clear hr h1 h2 h3 h4
          go_enter Try.func15, Try.ntmps15
          go_wp2
          go_ret
          exact ⟨rfl, HA.out⟩
      · have fh3_0 : decide (0 ≤ a.to) = false := by simpa using h3
        have hr : beforeB a b = false := decide_eq_false (by omega)
        rw [hr]
        clear hr h1 h2 h3
        go_enter Try.func15, Try.ntmps15
        go_wp2
        go_ret
        exact ⟨rfl, HA.out⟩
    · have fh2_0 : (a.era == b.era) = false := by simpa using h2
      have hr : beforeB a b = false := decide_eq_false (by omega)
      rw [hr]
      clear hr h1
      go_enter Try.func15, Try.ntmps15
      go_wp2
      go_ret
      exact ⟨rfl, HA.out⟩
def fitsB (a b : Cl) : Bool := decide (a.fr < b.fr ∧ a.era ≤ b.era ∧ (a.era < b.era → a.to < b.fr) ∧ (a.era = b.era → a.me ≠ b.me ∨ (0 ≤ a.to ∧ a.to < b.fr)))
theorem fits_any (a b : Cl) (w : World) : Calls Try.prog 29 #[a.val, b.val] w fun e w' => e = .returned (.bool (fitsB a b)) ∧ Below w.heap.size w w' := by
  obtain ⟨ame, ak, au, av, ax, aera, afr, ato, aerr, ais, an, aw, alist, aA, acap⟩ := a
  obtain ⟨bme, bk, bu, bv, bx, bera, bfr, bto, berr, bis, bn, bw, blist, bA, bcap⟩ := b
  unfold Cl.val
  simp only
  have HA := Lib.hid (((Below.refl w.heap.size w).alloc (Nat.le_refl _) (.cells #[.int .i64 ame, .int .i64 ak, .int .i64 au, .int .i64 av, .int .u64 ax, .int .i64 aera, .int .i64 afr, .int .i64 ato, .int .i64 aerr, .bool ais, .int .i64 an, .int .u64 aw, .slice aA alist.length acap] 32)).alloc (by rw [World.size_alloc]; omega) (.cells #[.int .i64 bme, .int .i64 bk, .int .i64 bu, .int .i64 bv, .int .u64 bx, .int .i64 bera, .int .i64 bfr, .int .i64 bto, .int .i64 berr, .bool bis, .int .i64 bn, .int .u64 bw, .slice bA blist.length bcap] 32))
  by_cases h1 : bfr ≤ afr
  · have fh1_0 : decide (bfr ≤ afr) = true := by simpa using h1
    have hr : fitsB ⟨ame, ak, au, av, ax, aera, afr, ato, aerr, ais, an, aw, alist, aA, acap⟩ ⟨bme, bk, bu, bv, bx, bera, bfr, bto, berr, bis, bn, bw, blist, bA, bcap⟩ = false := decide_eq_false (by simp only; omega)
    rw [hr]
    clear hr h1
    go_enter Try.func29, Try.ntmps29
    go_wp2
    go_ret
    exact ⟨rfl, HA.out⟩
  · have fh1_0 : decide (bfr ≤ afr) = false := by simpa using h1
    by_cases h2 : bera < aera
    · have fh2_0 : decide (bera < aera) = true := by simpa using h2
      have hr : fitsB ⟨ame, ak, au, av, ax, aera, afr, ato, aerr, ais, an, aw, alist, aA, acap⟩ ⟨bme, bk, bu, bv, bx, bera, bfr, bto, berr, bis, bn, bw, blist, bA, bcap⟩ = false := decide_eq_false (by simp only; omega)
      rw [hr]
      clear hr h1 h2
      go_enter Try.func29, Try.ntmps29
      go_wp2
      go_ret
      exact ⟨rfl, HA.out⟩
    · have fh2_0 : decide (bera < aera) = false := by simpa using h2
      by_cases h3 : aera < bera
      · have fh3_0 : decide (aera < bera) = true := by simpa using h3
        by_cases h4 : ato < bfr
        · have fh4_0 : decide (ato < bfr) = true := by simpa using h4
          have hr : fitsB ⟨ame, ak, au, av, ax, aera, afr, ato, aerr, ais, an, aw, alist, aA, acap⟩ ⟨bme, bk, bu, bv, bx, bera, bfr, bto, berr, bis, bn, bw, blist, bA, bcap⟩ = true := decide_eq_true (by simp only; omega)
          rw [hr]
          clear hr h1 h2 h3 h4
          go_enter Try.func29, Try.ntmps29
          go_wp2
          go_ret
          exact ⟨rfl, HA.out⟩
        · have fh4_0 : decide (ato < bfr) = false := by simpa using h4
          have hr : fitsB ⟨ame, ak, au, av, ax, aera, afr, ato, aerr, ais, an, aw, alist, aA, acap⟩ ⟨bme, bk, bu, bv, bx, bera, bfr, bto, berr, bis, bn, bw, blist, bA, bcap⟩ = false := decide_eq_false (by simp only; omega)
          rw [hr]
          clear hr h1 h2 h3 h4
          go_enter Try.func29, Try.ntmps29
          go_wp2
          go_ret
          exact ⟨rfl, HA.out⟩
      · have fh3_0 : decide (aera < bera) = false := by simpa using h3
        by_cases h5 : ame = bme
        · subst h5
          by_cases h6 : 0 ≤ ato
          · have fh6_0 : decide (0 ≤ ato) = true := by simpa using h6
            by_cases h7 : ato < bfr
            · have fh7_0 : decide (ato < bfr) = true := by simpa using h7
              have hr : fitsB ⟨ame, ak, au, av, ax, aera, afr, ato, aerr, ais, an, aw, alist, aA, acap⟩ ⟨ame, bk, bu, bv, bx, bera, bfr, bto, berr, bis, bn, bw, blist, bA, bcap⟩ = true := decide_eq_true (by simp only; omega)
              rw [hr]
              clear hr h1 h2 h3 h6 h7
              go_enter Try.func29, Try.ntmps29
              go_wp2
              go_ret
              exact ⟨rfl, HA.out⟩
            · have fh7_0 : decide (ato < bfr) = false := by simpa using h7
              have hr : fitsB ⟨ame, ak, au, av, ax, aera, afr, ato, aerr, ais, an, aw, alist, aA, acap⟩ ⟨ame, bk, bu, bv, bx, bera, bfr, bto, berr, bis, bn, bw, blist, bA, bcap⟩ = false := decide_eq_false (by simp only; omega)
              rw [hr]
              clear hr h1 h2 h3 h6 h7
              go_enter Try.func29, Try.ntmps29
              go_wp2
              go_ret
              exact ⟨rfl, HA.out⟩
          · have fh6_0 : decide (0 ≤ ato) = false := by simpa using h6
            have hr : fitsB ⟨ame, ak, au, av, ax, aera, afr, ato, aerr, ais, an, aw, alist, aA, acap⟩ ⟨ame, bk, bu, bv, bx, bera, bfr, bto, berr, bis, bn, bw, blist, bA, bcap⟩ = false := decide_eq_false (by simp only; omega)
            rw [hr]
            clear hr h1 h2 h3 h6
            go_enter Try.func29, Try.ntmps29
            go_wp2
            go_ret
            exact ⟨rfl, HA.out⟩
        · have fh5_0 : (ame == bme) = false := by simpa using h5
          have hr : fitsB ⟨ame, ak, au, av, ax, aera, afr, ato, aerr, ais, an, aw, alist, aA, acap⟩ ⟨bme, bk, bu, bv, bx, bera, bfr, bto, berr, bis, bn, bw, blist, bA, bcap⟩ = true := decide_eq_true (by simp only; omega)
          rw [hr]
          clear hr h1 h2 h3
          go_enter Try.func29, Try.ntmps29
          go_wp2
          go_ret
          exact ⟨rfl, HA.out⟩
def mayB (a : Cl) : Bool := decide (11 ≤ a.k ∧ a.k ≤ 17 ∧ 0 ≤ a.me ∧ a.me < 64 ∧ 0 ≤ a.era ∧ 0 ≤ a.fr ∧ (a.to < 0 ∨ a.fr < a.to))
theorem may_any (a : Cl) (w : World) : Calls Try.prog 26 #[a.val] w fun e w' => e = .returned (.bool (mayB a)) ∧ Below w.heap.size w w' := by
  have HA := Lib.hid ((Below.refl w.heap.size w).alloc (Nat.le_refl _) (.cells #[.int .i64 a.me, .int .i64 a.k, .int .i64 a.u, .int .i64 a.v, .int .u64 a.x, .int .i64 a.era, .int .i64 a.fr, .int .i64 a.to, .int .i64 a.err, .bool a.is, .int .i64 a.n, .int .u64 a.w, .slice a.A a.list.length a.cap] 32))
  unfold Cl.val
  by_cases h1 : 11 ≤ a.k
  · have fh1_0 : decide (11 ≤ a.k) = true := by simpa using h1
    by_cases h2 : a.k ≤ 17
    · have fh2_0 : decide (a.k ≤ 17) = true := by simpa using h2
      by_cases h3 : 0 ≤ a.me
      · have fh3_0 : decide (0 ≤ a.me) = true := by simpa using h3
        by_cases h4 : a.me < 64
        · have fh4_0 : decide (a.me < 64) = true := by simpa using h4
          by_cases h5 : 0 ≤ a.era
          · have fh5_0 : decide (0 ≤ a.era) = true := by simpa using h5
            by_cases h6 : 0 ≤ a.fr
            · have fh6_0 : decide (0 ≤ a.fr) = true := by simpa using h6
              by_cases h7 : a.to < 0
              · have fh7_0 : decide (a.to < 0) = true := by simpa using h7
                have hr : mayB a = true := decide_eq_true (by omega)
                rw [hr]
                clear hr h1 h2 h3 h4 h5 h6 h7
                go_enter Try.func26, Try.ntmps26
                go_wp2
                go_ret
                exact ⟨rfl, HA.out⟩
              · have fh7_0 : decide (a.to < 0) = false := by simpa using h7
                by_cases h8 : a.fr < a.to
                · have fh8_0 : decide (a.fr < a.to) = true := by simpa using h8
                  have hr : mayB a = true := decide_eq_true (by omega)
                  rw [hr]
                  clear hr h1 h2 h3 h4 h5 h6 h7 h8
                  go_enter Try.func26, Try.ntmps26
                  go_wp2
                  go_ret
                  exact ⟨rfl, HA.out⟩
                · have fh8_0 : decide (a.fr < a.to) = false := by simpa using h8
                  have hr : mayB a = false := decide_eq_false (by omega)
                  rw [hr]
                  clear hr h1 h2 h3 h4 h5 h6 h7 h8
                  go_enter Try.func26, Try.ntmps26
                  go_wp2
                  go_ret
                  exact ⟨rfl, HA.out⟩
            · have fh6_0 : decide (0 ≤ a.fr) = false := by simpa using h6
              have hr : mayB a = false := decide_eq_false (by omega)
              rw [hr]
              clear hr h1 h2 h3 h4 h5 h6
              go_enter Try.func26, Try.ntmps26
              go_wp2
              go_ret
              exact ⟨rfl, HA.out⟩
          · have fh5_0 : decide (0 ≤ a.era) = false := by simpa using h5
            have hr : mayB a = false := decide_eq_false (by omega)
            rw [hr]
            clear hr h1 h2 h3 h4 h5
            go_enter Try.func26, Try.ntmps26
            go_wp2
            go_ret
            exact ⟨rfl, HA.out⟩
        · have fh4_0 : decide (a.me < 64) = false := by simpa using h4
          have hr : mayB a = false := decide_eq_false (by omega)
          rw [hr]
          clear hr h1 h2 h3 h4
          go_enter Try.func26, Try.ntmps26
          go_wp2
          go_ret
          exact ⟨rfl, HA.out⟩
      · have fh3_0 : decide (0 ≤ a.me) = false := by simpa using h3
        have hr : mayB a = false := decide_eq_false (by omega)
        rw [hr]
        clear hr h1 h2 h3
        go_enter Try.func26, Try.ntmps26
        go_wp2
        go_ret
        exact ⟨rfl, HA.out⟩
    · have fh2_0 : decide (a.k ≤ 17) = false := by simpa using h2
      have hr : mayB a = false := decide_eq_false (by omega)
      rw [hr]
      clear hr h1 h2
      go_enter Try.func26, Try.ntmps26
      go_wp2
      go_ret
      exact ⟨rfl, HA.out⟩
  · have fh1_0 : decide (11 ≤ a.k) = false := by simpa using h1
    have hr : mayB a = false := decide_eq_false (by omega)
    rw [hr]
    clear hr h1
    go_enter Try.func26, Try.ntmps26
    go_wp2
    go_ret
    exact ⟨rfl, HA.out⟩
def idleB (a : Cl) : Bool := decide (0 ≤ a.to ∧ (a.err = 3 ∨ a.err = 4 ∨ a.err = 6 ∨ a.err = 9))
theorem idle_any (a : Cl) (w : World) : Calls Try.prog 13 #[a.val] w fun e w' => e = .returned (.bool (idleB a)) ∧ Below w.heap.size w w' := by
  have HA := Lib.hid ((Below.refl w.heap.size w).alloc (Nat.le_refl _) (.cells #[.int .i64 a.me, .int .i64 a.k, .int .i64 a.u, .int .i64 a.v, .int .u64 a.x, .int .i64 a.era, .int .i64 a.fr, .int .i64 a.to, .int .i64 a.err, .bool a.is, .int .i64 a.n, .int .u64 a.w, .slice a.A a.list.length a.cap] 32))
  unfold Cl.val
  by_cases h1 : a.err = 3
  · have fh1_0 : (a.err == 3) = true := by simpa using h1
    by_cases h2 : 0 ≤ a.to
    · have fh2_0 : decide (0 ≤ a.to) = true := by simpa using h2
      have hr : idleB a = true := decide_eq_true (by omega)
      rw [hr]
      clear hr h1 h2
      go_enter Try.func13, Try.ntmps13
      go_wp2
      go_ret
      exact ⟨rfl, HA.out⟩
    · have fh2_0 : decide (0 ≤ a.to) = false := by simpa using h2
      have hr : idleB a = false := decide_eq_false (by omega)
      rw [hr]
      clear hr h1 h2
      go_enter Try.func13, Try.ntmps13
      go_wp2
      go_ret
      exact ⟨rfl, HA.out⟩
  · have fh1_0 : (a.err == 3) = false := by simpa using h1
    by_cases h3 : a.err = 4
    · have fh3_0 : (a.err == 4) = true := by simpa using h3
      by_cases h4 : 0 ≤ a.to
      · have fh4_0 : decide (0 ≤ a.to) = true := by simpa using h4
        have hr : idleB a = true := decide_eq_true (by omega)
        rw [hr]
        clear hr h3 h4
        go_enter Try.func13, Try.ntmps13
        go_wp2
        go_ret
        exact ⟨rfl, HA.out⟩
      · have fh4_0 : decide (0 ≤ a.to) = false := by simpa using h4
        have hr : idleB a = false := decide_eq_false (by omega)
        rw [hr]
        clear hr h3 h4
        go_enter Try.func13, Try.ntmps13
        go_wp2
        go_ret
        exact ⟨rfl, HA.out⟩
    · have fh3_0 : (a.err == 4) = false := by simpa using h3
      by_cases h5 : a.err = 6
      · have fh5_0 : (a.err == 6) = true := by simpa using h5
        by_cases h6 : 0 ≤ a.to
        · have fh6_0 : decide (0 ≤ a.to) = true := by simpa using h6
          have hr : idleB a = true := decide_eq_true (by omega)
          rw [hr]
          clear hr h5 h6
          go_enter Try.func13, Try.ntmps13
          go_wp2
          go_ret
          exact ⟨rfl, HA.out⟩
        · have fh6_0 : decide (0 ≤ a.to) = false := by simpa using h6
          have hr : idleB a = false := decide_eq_false (by omega)
          rw [hr]
          clear hr h5 h6
          go_enter Try.func13, Try.ntmps13
          go_wp2
          go_ret
          exact ⟨rfl, HA.out⟩
      · have fh5_0 : (a.err == 6) = false := by simpa using h5
        by_cases h7 : a.err = 9
        · have fh7_0 : (a.err == 9) = true := by simpa using h7
          by_cases h8 : 0 ≤ a.to
          · have fh8_0 : decide (0 ≤ a.to) = true := by simpa using h8
            have hr : idleB a = true := decide_eq_true (by omega)
            rw [hr]
            clear hr h7 h8
            go_enter Try.func13, Try.ntmps13
            go_wp2
            go_ret
            exact ⟨rfl, HA.out⟩
          · have fh8_0 : decide (0 ≤ a.to) = false := by simpa using h8
            have hr : idleB a = false := decide_eq_false (by omega)
            rw [hr]
            clear hr h7 h8
            go_enter Try.func13, Try.ntmps13
            go_wp2
            go_ret
            exact ⟨rfl, HA.out⟩
        · have fh7_0 : (a.err == 9) = false := by simpa using h7
          have hr : idleB a = false := decide_eq_false (by omega)
          rw [hr]
          clear hr
          go_enter Try.func13, Try.ntmps13
          go_wp2
          go_ret
          exact ⟨rfl, HA.out⟩
def openB (a : Cl) : Bool := decide (a.to < 0 ∨ a.err = 7)
theorem open_any (a : Cl) (w : World) : Calls Try.prog 11 #[a.val] w fun e w' => e = .returned (.bool (openB a)) ∧ Below w.heap.size w w' := by
  have HA := Lib.hid ((Below.refl w.heap.size w).alloc (Nat.le_refl _) (.cells #[.int .i64 a.me, .int .i64 a.k, .int .i64 a.u, .int .i64 a.v, .int .u64 a.x, .int .i64 a.era, .int .i64 a.fr, .int .i64 a.to, .int .i64 a.err, .bool a.is, .int .i64 a.n, .int .u64 a.w, .slice a.A a.list.length a.cap] 32))
  unfold Cl.val
  by_cases h1 : a.to < 0
  · have fh1_0 : decide (a.to < 0) = true := by simpa using h1
    have hr : openB a = true := decide_eq_true (by omega)
    rw [hr]
    clear hr h1
    go_enter Try.func11, Try.ntmps11
    go_wp2
    go_ret
    exact ⟨rfl, HA.out⟩
  · have fh1_0 : decide (a.to < 0) = false := by simpa using h1
    by_cases h2 : a.err = 7
    · have fh2_0 : (a.err == 7) = true := by simpa using h2
      have hr : openB a = true := decide_eq_true (by omega)
      rw [hr]
      clear hr h1 h2
      go_enter Try.func11, Try.ntmps11
      go_wp2
      go_ret
      exact ⟨rfl, HA.out⟩
    · have fh2_0 : (a.err == 7) = false := by simpa using h2
      have hr : openB a = false := decide_eq_false (by omega)
      rw [hr]
      clear hr h1
      go_enter Try.func11, Try.ntmps11
      go_wp2
      go_ret
      exact ⟨rfl, HA.out⟩
def edgeB (k : Int) : Bool := decide (14 ≤ k ∧ k ≤ 16)
theorem edge_any (k : Int) (w : World) : Calls Try.prog 30 #[.int .i64 k] w fun e w' => e = .returned (.bool (edgeB k)) ∧ w = w' := by
  by_cases h1 : 14 ≤ k
  · have fh1_0 : decide (14 ≤ k) = true := by simpa using h1
    by_cases h2 : k ≤ 16
    · have fh2_0 : decide (k ≤ 16) = true := by simpa using h2
      have hr : edgeB k = true := decide_eq_true (by omega)
      rw [hr]
      clear hr h1 h2
      go_enter Try.func30, Try.ntmps30
      go_wp2
      go_ret
      exact ⟨rfl, rfl⟩
    · have fh2_0 : decide (k ≤ 16) = false := by simpa using h2
      have hr : edgeB k = false := decide_eq_false (by omega)
      rw [hr]
      clear hr h1 h2
      go_enter Try.func30, Try.ntmps30
      go_wp2
      go_ret
      exact ⟨rfl, rfl⟩
  · have fh1_0 : decide (14 ≤ k) = false := by simpa using h1
    have hr : edgeB k = false := decide_eq_false (by omega)
    rw [hr]
    clear hr h1
    go_enter Try.func30, Try.ntmps30
    go_wp2
    go_ret
    exact ⟨rfl, rfl⟩
def asksB (k : Int) : Bool := decide (k = 13 ∨ k = 16 ∨ k = 17)
theorem asks_any (k : Int) (w : World) : Calls Try.prog 42 #[.int .i64 k] w fun e w' => e = .returned (.bool (asksB k)) ∧ w = w' := by
  by_cases h1 : k = 13
  · have fh1_0 : (k == 13) = true := by simpa using h1
    have hr : asksB k = true := decide_eq_true (by omega)
    rw [hr]
    clear hr h1
    go_enter Try.func42, Try.ntmps42
    go_wp2
    go_ret
    exact ⟨rfl, rfl⟩
  · have fh1_0 : (k == 13) = false := by simpa using h1
    by_cases h2 : k = 16
    · have fh2_0 : (k == 16) = true := by simpa using h2
      have hr : asksB k = true := decide_eq_true (by omega)
      rw [hr]
      clear hr h2
      go_enter Try.func42, Try.ntmps42
      go_wp2
      go_ret
      exact ⟨rfl, rfl⟩
    · have fh2_0 : (k == 16) = false := by simpa using h2
      by_cases h3 : k = 17
      · have fh3_0 : (k == 17) = true := by simpa using h3
        have hr : asksB k = true := decide_eq_true (by omega)
        rw [hr]
        clear hr h3
        go_enter Try.func42, Try.ntmps42
        go_wp2
        go_ret
        exact ⟨rfl, rfl⟩
      · have fh3_0 : (k == 17) = false := by simpa using h3
        have hr : asksB k = false := decide_eq_false (by omega)
        rw [hr]
        clear hr
        go_enter Try.func42, Try.ntmps42
        go_wp2
        go_ret
        exact ⟨rfl, rfl⟩
end Go.Proofs.Ythepgdfhdkhhbaa
