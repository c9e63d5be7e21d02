/- The reference's small functions of calls. -/
import Derived.Test.YthepgdfhdkhhbaaSmall
namespace Go.Proofs.Ythepgdfhdkhhbaa
open Go.RowKit Aid

theorem rOpen_any (a : Cl) (w : World) : Calls Try.prog 12 #[a.val] w fun e w' => e = .returned (.bool (openB a)) ∧ Below w.heap.size w w' := by
  have HA := Lib.hid ((Below.refl w.heap.size w).alloc (Nat.le_refl _) (.cells #[.int .i64 a.me, .int .i64 a.k, .int .i64 a.u, .int .i64 a.v, .int .u64 a.x, .int .i64 a.era, .int .i64 a.fr, .int .i64 a.to, .int .i64 a.err, .bool a.is, .int .i64 a.n, .int .u64 a.w, .slice a.A a.list.length a.cap] 32))
  unfold Cl.val
  by_cases h1 : a.to < 0
  · have fh1_0 : decide (a.to < 0) = true := by simpa using h1
    have hr : openB a = true := decide_eq_true (by omega)
    rw [hr]
    clear hr h1
    go_enter Try.func12, Try.ntmps12
    go_wp2
    go_ret
    exact ⟨rfl, HA.out⟩
  · have fh1_0 : decide (a.to < 0) = false := by simpa using h1
    by_cases h2 : a.err = 7
    · have fh2_0 : (a.err == 7) = true := by simpa using h2
      have hr : openB a = true := decide_eq_true (by omega)
      rw [hr]
      clear hr h1 h2
      go_enter Try.func12, Try.ntmps12
      go_wp2
      go_ret
      exact ⟨rfl, HA.out⟩
    · have fh2_0 : (a.err == 7) = false := by simpa using h2
      have hr : openB a = false := decide_eq_false (by omega)
      rw [hr]
      clear hr h1
      go_enter Try.func12, Try.ntmps12
      go_wp2
      go_ret
      exact ⟨rfl, HA.out⟩
theorem rIdle_any (a : Cl) (w : World) : Calls Try.prog 14 #[a.val] w fun e w' => e = .returned (.bool (idleB a)) ∧ Below w.heap.size w w' := by
  have HA := Lib.hid ((Below.refl w.heap.size w).alloc (Nat.le_refl _) (.cells #[.int .i64 a.me, .int .i64 a.k, .int .i64 a.u, .int .i64 a.v, .int .u64 a.x, .int .i64 a.era, .int .i64 a.fr, .int .i64 a.to, .int .i64 a.err, .bool a.is, .int .i64 a.n, .int .u64 a.w, .slice a.A a.list.length a.cap] 32))
  unfold Cl.val
  by_cases h1 : 0 ≤ a.to
  · have fh1_0 : decide (0 ≤ a.to) = true := by simpa using h1
    by_cases h2 : a.err = 3
    · have fh2_0 : (a.err == 3) = true := by simpa using h2
      have hr : idleB a = true := decide_eq_true (by omega)
      rw [hr]
      clear hr h1 h2
      go_enter Try.func14, Try.ntmps14
      go_wp2
      go_ret
      exact ⟨rfl, HA.out⟩
    · have fh2_0 : (a.err == 3) = false := by simpa using h2
      by_cases h3 : a.err = 4
      · have fh3_0 : (a.err == 4) = true := by simpa using h3
        have hr : idleB a = true := decide_eq_true (by omega)
        rw [hr]
        clear hr h1 h3
        go_enter Try.func14, Try.ntmps14
        go_wp2
        go_ret
        exact ⟨rfl, HA.out⟩
      · have fh3_0 : (a.err == 4) = false := by simpa using h3
        by_cases h4 : a.err = 6
        · have fh4_0 : (a.err == 6) = true := by simpa using h4
          have hr : idleB a = true := decide_eq_true (by omega)
          rw [hr]
          clear hr h1 h4
          go_enter Try.func14, Try.ntmps14
          go_wp2
          go_ret
          exact ⟨rfl, HA.out⟩
        · have fh4_0 : (a.err == 6) = false := by simpa using h4
          by_cases h5 : a.err = 9
          · have fh5_0 : (a.err == 9) = true := by simpa using h5
            have hr : idleB a = true := decide_eq_true (by omega)
            rw [hr]
            clear hr h1 h5
            go_enter Try.func14, Try.ntmps14
            go_wp2
            go_ret
            exact ⟨rfl, HA.out⟩
          · have fh5_0 : (a.err == 9) = false := by simpa using h5
            have hr : idleB a = false := decide_eq_false (by omega)
            rw [hr]
            clear hr h1
            go_enter Try.func14, Try.ntmps14
            go_wp2
            go_ret
            exact ⟨rfl, HA.out⟩
  · have fh1_0 : decide (0 ≤ a.to) = false := by simpa using h1
    have hr : idleB a = false := decide_eq_false (by omega)
    rw [hr]
    clear hr h1
    go_enter Try.func14, Try.ntmps14
    go_wp2
    go_ret
    exact ⟨rfl, HA.out⟩
theorem rBefore_any (a b : Cl) (w : World) : Calls Try.prog 16 #[a.val, b.val] w fun e w' => e = .returned (.bool (beforeB a b)) ∧ Below w.heap.size w w' := by
  have HA := Lib.hid (((Below.refl w.heap.size w).alloc (Nat.le_refl _) (.cells #[.int .i64 a.me, .int .i64 a.k, .int .i64 a.u, .int .i64 a.v, .int .u64 a.x, .int .i64 a.era, .int .i64 a.fr, .int .i64 a.to, .int .i64 a.err, .bool a.is, .int .i64 a.n, .int .u64 a.w, .slice a.A a.list.length a.cap] 32)).alloc (by rw [World.size_alloc]; omega) (.cells #[.int .i64 b.me, .int .i64 b.k, .int .i64 b.u, .int .i64 b.v, .int .u64 b.x, .int .i64 b.era, .int .i64 b.fr, .int .i64 b.to, .int .i64 b.err, .bool b.is, .int .i64 b.n, .int .u64 b.w, .slice b.A b.list.length b.cap] 32))
  unfold Cl.val
  by_cases h1 : a.era = b.era
  · have fh1_0 : (a.era == b.era) = true := by simpa using h1
    have fh1_1 : (a.era != b.era) = false := by simpa using h1
    by_cases h2 : 0 ≤ a.to
    · have fh2_0 : decide (0 ≤ a.to) = true := by simpa using h2
      by_cases h3 : a.to < b.fr
      · have fh3_0 : decide (a.to < b.fr) = true := by simpa using h3
        have hr : beforeB a b = true := decide_eq_true (by omega)
        rw [hr]
        clear hr h1 h2 h3
        go_enter Try.func16, Try.ntmps16
        go_wp2
        go_ret
        exact ⟨rfl, HA.out⟩
      · have fh3_0 : decide (a.to < b.fr) = false := by simpa using h3
        have hr : beforeB a b = false := decide_eq_false (by omega)
        rw [hr]
        clear hr h1 h2 h3
        go_enter Try.func16, Try.ntmps16
        go_wp2
        go_ret
        exact ⟨rfl, HA.out⟩
    · have fh2_0 : decide (0 ≤ a.to) = false := by simpa using h2
      have hr : beforeB a b = false := decide_eq_false (by omega)
      rw [hr]
      clear hr h1 h2
      go_enter Try.func16, Try.ntmps16
      go_wp2
      go_ret
      exact ⟨rfl, HA.out⟩
  · have fh1_0 : (a.era == b.era) = false := by simpa using h1
    have fh1_1 : (a.era != b.era) = true := by simpa using h1
    by_cases h4 : a.era < b.era
    · have fh4_0 : decide (a.era < b.era) = true := by simpa using h4
      have hr : beforeB a b = true := decide_eq_true (by omega)
      rw [hr]
      clear hr h4
      go_enter Try.func16, Try.ntmps16
      go_wp2
      go_ret
      exact ⟨rfl, HA.out⟩
    · have fh4_0 : decide (a.era < b.era) = false := by simpa using h4
      have hr : beforeB a b = false := decide_eq_false (by omega)
      rw [hr]
      clear hr h4
      go_enter Try.func16, Try.ntmps16
      go_wp2
      go_ret
      exact ⟨rfl, HA.out⟩
theorem rAsks_any (k : Int) (w : World) : Calls Try.prog 37 #[.int .i64 k] w fun e w' => e = .returned (.bool (asksB k)) ∧ w = w' := by
  by_cases h1 : k = 13
  · have fh1_0 : (k == 13) = true := by simpa using h1
    have hr : asksB k = true := decide_eq_true (by omega)
    rw [hr]
    clear hr h1
    go_enter Try.func37, Try.ntmps37
    go_wp2
    go_ret
    exact ⟨rfl, rfl⟩
  · have fh1_0 : (k == 13) = false := by simpa using h1
    by_cases h2 : k = 16
    · have fh2_0 : (k == 16) = true := by simpa using h2
      have hr : asksB k = true := decide_eq_true (by omega)
      rw [hr]
      clear hr h2
      go_enter Try.func37, Try.ntmps37
      go_wp2
      go_ret
      exact ⟨rfl, rfl⟩
    · have fh2_0 : (k == 16) = false := by simpa using h2
      by_cases h3 : k = 17
      · have fh3_0 : (k == 17) = true := by simpa using h3
        have hr : asksB k = true := decide_eq_true (by omega)
        rw [hr]
        clear hr h3
        go_enter Try.func37, Try.ntmps37
        go_wp2
        go_ret
        exact ⟨rfl, rfl⟩
      · have fh3_0 : (k == 17) = false := by simpa using h3
        have hr : asksB k = false := decide_eq_false (by omega)
        rw [hr]
        clear hr
        go_enter Try.func37, Try.ntmps37
        go_wp2
        go_ret
        exact ⟨rfl, rfl⟩
end Go.Proofs.Ythepgdfhdkhhbaa
