/- wealdref11.Outs: are two answers the same? -/
import Derived.Test.YtmlcghbhkpbaeaaSame
namespace Go.Proofs.Ytmlcghbhkpbaeaa
open Go.RowKit Aid

/-- An answer. -/
structure Ans where
  err : Int
  is : Bool
  n : Int
  w : Int
  list : List Int
def Ans.val (a : Ans) (A : Option Addr) (c : Nat) : Value := .agg #[.int .i64 a.err, .bool a.is, .int .i64 a.n, .int .u64 a.w, .slice A a.list.length c]
theorem Ans.ext' {a b : Ans} (h1 : a.err = b.err) (h2 : a.is = b.is) (h3 : a.n = b.n) (h4 : a.w = b.w) (h5 : a.list = b.list) : a = b := by cases a; cases b; simp_all
instance : DecidableEq Ans := fun a b => if h : a.err = b.err ∧ a.is = b.is ∧ a.n = b.n ∧ a.w = b.w ∧ a.list = b.list then isTrue (Ans.ext' h.1 h.2.1 h.2.2.1 h.2.2.2.1 h.2.2.2.2) else isFalse (fun e => h (by rw [e]; exact ⟨rfl, rfl, rfl, rfl, rfl⟩))
def outsB (a b : Ans) : Bool := decide (a = b)
set_option maxHeartbeats 4000000 in
theorem outs_any (a b : Ans) (A B : Option Addr) (c d : Nat) (w : World) (hA : Sl w A (a.list.map (Value.int .i64))) (hB : Sl w B (b.list.map (Value.int .i64))) (h40 : a.list.length ≤ 1000) :
    Calls Try.prog 12 #[a.val A c, b.val B d] w fun e w' => e = .returned (.bool (outsB a b)) ∧ Below w.heap.size w w' := by
  obtain ⟨e1, i1, n1, w1, l1⟩ := a
  obtain ⟨e2, i2, n2, w2, l2⟩ := b
  have bB := Lib.hid (((Below.refl w.heap.size w).alloc (Nat.le_refl _) (.cells #[.int .i64 e1, .bool i1, .int .i64 n1, .int .u64 w1, .slice A l1.length c] 31)).alloc (by rw [World.size_alloc]; omega) (.cells #[.int .i64 e2, .bool i2, .int .i64 n2, .int .u64 w2, .slice B l2.length d] 31))
  have HSA := Lib.hid (hA.below bB.out (Nat.le_refl _))
  have HSB := Lib.hid (hB.below bB.out (Nat.le_refl _))
  clear hA hB
  unfold Ans.val
  simp only at HSA HSB h40 ⊢
  cases h1 : (e1 == e2)
  · have h1' : ¬ e1 = e2 := by simpa using h1
    have hx := Lib.hid (show outsB ⟨e1, i1, n1, w1, l1⟩ ⟨e2, i2, n2, w2, l2⟩ = false from decide_eq_false (fun e => by injection e; simp_all))
    go_enter Try.func12, Try.ntmps12
    go_wp2
    go_ret
    exact ⟨by rw [hx.out]; rfl, bB.out⟩
  · obtain rfl : e1 = e2 := by simpa using h1
    clear h1
    by_cases h2 : i1 = i2
    · subst h2
      cases h3 : (n1 == n2)
      · have h3' : ¬ n1 = n2 := by simpa using h3
        have hx := Lib.hid (show outsB ⟨e1, i1, n1, w1, l1⟩ ⟨e1, i1, n2, w2, l2⟩ = false from decide_eq_false (fun e => by injection e; simp_all))
        go_enter Try.func12, Try.ntmps12
        go_wp2
        go_ret
        exact ⟨by rw [hx.out]; rfl, bB.out⟩
      · obtain rfl : n1 = n2 := by simpa using h3
        clear h3
        cases h4 : (w1 == w2)
        · have h4' : ¬ w1 = w2 := by simpa using h4
          have hx := Lib.hid (show outsB ⟨e1, i1, n1, w1, l1⟩ ⟨e1, i1, n1, w2, l2⟩ = false from decide_eq_false (fun e => by injection e; simp_all))
          go_enter Try.func12, Try.ntmps12
          go_wp2
          go_ret
          exact ⟨by rw [hx.out]; rfl, bB.out⟩
        · obtain rfl : w1 = w2 := by simpa using h4
          clear h4
          by_cases h5 : l1.length = l2.length
          · have h5' : ((l1.length : Int) == (l2.length : Int)) = true := by simp; omega
            have H5 := Lib.hid h5
            clear h5
            go_enter Try.func12, Try.ntmps12
            go_wp2
            have q1 : ((w.alloc (.cells #[.int .i64 e1, .bool i1, .int .i64 n1, .int .u64 w1, .slice A l1.length c] 31)).alloc (.cells #[.int .i64 e1, .bool i1, .int .i64 n1, .int .u64 w1, .slice B l2.length d] 31)).cell? ⟨w.heap.size, 4, none⟩ = some (.slice A l1.length c) := by
              rw [World.cell?_alloc_lt _ _ _ (by show w.heap.size < _; rw [World.size_alloc]; omega), World.cell?_alloc_new]; rfl
            have q2 : ((w.alloc (.cells #[.int .i64 e1, .bool i1, .int .i64 n1, .int .u64 w1, .slice A l1.length c] 31)).alloc (.cells #[.int .i64 e1, .bool i1, .int .i64 n1, .int .u64 w1, .slice B l2.length d] 31)).cell? ⟨w.heap.size + 1, 4, none⟩ = some (.slice B l2.length d) := by
              have := World.cell?_alloc_new (w.alloc (.cells #[.int .i64 e1, .bool i1, .int .i64 n1, .int .u64 w1, .slice A l1.length c] 31)) #[.int .i64 e1, .bool i1, .int .i64 n1, .int .u64 w1, .slice B l2.length d] 31 4
              rw [World.size_alloc] at this
              rw [this]; rfl
            generalize ((w.alloc (.cells #[.int .i64 e1, .bool i1, .int .i64 n1, .int .u64 w1, .slice A l1.length c] 31)).alloc (.cells #[.int .i64 e1, .bool i1, .int .i64 n1, .int .u64 w1, .slice B l2.length d] 31)) = W2 at *
            go_loopw [5] (fun v wr => ∃ i : Nat, i ≤ l1.length ∧ v = .int .i64 i ∧ (∀ (j : Nat) (a b : Int), j < i → l1[j]? = some a → l2[j]? = some b → a = b) ∧ Below W2.heap.size W2 wr) (fun v _ => l1.length - (intOf v).toNat)
            case atStart => exact ⟨0, Nat.zero_le _, rfl, fun j a b hj => by omega, Below.refl _ _⟩
            case round =>
              obtain ⟨i, hi, rfl, hall, hb⟩ := hrel
              have s1 := (hb.cell (p := ⟨w.heap.size, 4, none⟩) (World.block_lt_of_cell? _ _ q1)).trans q1
              have s2 := (hb.cell (p := ⟨w.heap.size + 1, 4, none⟩) (World.block_lt_of_cell? _ _ q2)).trans q2
              have HA := Lib.hid hall
              have HB := Lib.hid hb
              clear hall hb
              by_cases hlt : i < l1.length
              · have hlt2 : i < l2.length := by have := H5.out; omega
                obtain ⟨x1, hx1⟩ : ∃ x1, x1 = l1[i] := ⟨_, rfl⟩
                obtain ⟨x2, hx2⟩ : ∃ x2, x2 = l2[i] := ⟨_, rfl⟩
                have g1 : l1[i]? = some x1 := by rw [hx1]; exact List.getElem?_eq_getElem hlt
                have g2 : l2[i]? = some x2 := by rw [hx2]; exact List.getElem?_eq_getElem hlt2
                obtain ⟨b1, o1, hA, hcs⟩ := (HSA.out.below HB.out (Nat.le_refl _)) (by rw [List.length_map]; omega)
                have c1 := hcs i (.int .i64 x1) (by rw [List.getElem?_map, g1]; rfl)
                obtain ⟨b2, o2, hB, hds⟩ := (HSB.out.below HB.out (Nat.le_refl _)) (by rw [List.length_map]; omega)
                have d1 := hds i (.int .i64 x2) (by rw [List.getElem?_map, g2]; rfl)
                clear hcs hds hx1 hx2
                subst hA hB
                have G1 := Lib.hid g1
                have G2 := Lib.hid g2
                clear g1 g2
                have i0 : (0 : Int) ≤ (i : Int) := by omega
                have j1 : (i : Int) < (l1.length : Int) := by omega
                have j2 : (i : Int) < (l2.length : Int) := by omega
                cases hab : (x1 == x2)
                · have hab' : ¬ x1 = x2 := by simpa using hab
                  have hx := Lib.hid (show outsB ⟨e1, i1, n1, w1, l1⟩ ⟨e1, i1, n1, w1, l2⟩ = false from decide_eq_false (fun e => by injection e with _ _ _ _ e5; have u1 := G1.out; have u2 := G2.out; rw [e5, u2] at u1; cases u1; exact hab' rfl))
                  go_wp2
                  go_quiet (fail)
                  go_wp2
                  go_ret
                  exact ⟨by rw [hx.out]; rfl, bB.out.trans ((below_drewN HB.out _).mono bB.out.size)⟩
                · obtain rfl : x1 = x2 := by simpa using hab
                  clear hab
                  go_wp2
                  go_quiet (fail)
                  go_wp2
                  refine ⟨⟨i + 1, by omega, by go_num, fun j x y hj hx hy => ?_, below_drewN HB.out _⟩, by simp [intOf]; omega⟩
                  rcases Nat.lt_or_ge j i with h | h
                  · exact HA.out j x y h hx hy
                  · obtain rfl : j = i := by omega
                    rw [G1.out] at hx; rw [G2.out] at hy; cases hx; cases hy; rfl
              · have hx := Lib.hid (show outsB ⟨e1, i1, n1, w1, l1⟩ ⟨e1, i1, n1, w1, l2⟩ = true from decide_eq_true (by
                  have : l1 = l2 := List.ext_getElem H5.out (fun j u1 u2 => HA.out j _ _ (by omega) (List.getElem?_eq_getElem u1) (List.getElem?_eq_getElem u2))
                  rw [this]))
                go_wp2
                go_ret
                exact ⟨by rw [hx.out]; rfl, bB.out.trans (HB.out.mono bB.out.size)⟩
          · have h5' : ((l1.length : Int) == (l2.length : Int)) = false := by simp; omega
            have h5'' : ¬ (l1.length : Int) = (l2.length : Int) := by omega
            have hx := Lib.hid (show outsB ⟨e1, i1, n1, w1, l1⟩ ⟨e1, i1, n1, w1, l2⟩ = false from decide_eq_false (fun e => by injection e; simp_all))
            go_enter Try.func12, Try.ntmps12
            go_wp2
            go_ret
            exact ⟨by rw [hx.out]; rfl, bB.out⟩
    · cases i1 <;> cases i2 <;> first | (exact absurd rfl h2) | skip
      · have hx := Lib.hid (show outsB ⟨e1, false, n1, w1, l1⟩ ⟨e1, true, n2, w2, l2⟩ = false from decide_eq_false (fun e => by injection e; simp_all))
        go_enter Try.func12, Try.ntmps12
        go_wp2
        go_ret
        exact ⟨by rw [hx.out]; rfl, bB.out⟩
      · have hx := Lib.hid (show outsB ⟨e1, true, n1, w1, l1⟩ ⟨e1, false, n2, w2, l2⟩ = false from decide_eq_false (fun e => by injection e; simp_all))
        go_enter Try.func12, Try.ntmps12
        go_wp2
        go_ret
        exact ⟨by rw [hx.out]; rfl, bB.out⟩
end Go.Proofs.Ytmlcghbhkpbaeaa
