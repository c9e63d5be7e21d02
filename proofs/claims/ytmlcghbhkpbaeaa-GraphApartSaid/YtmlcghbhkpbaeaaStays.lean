/- GraphStays: whatever comes in. -/
import Derived.Test.YtmlcghbhkpbaeaaStays1
import Derived.Test.YtmlcghbhkpbaeaaStays2
import Derived.Test.YtmlcghbhkpbaeaaStays3
namespace Go.Proofs.Ytmlcghbhkpbaeaa
open Go.RowKit Aid

set_option maxRecDepth 100000 in
theorem stays_long (A : Option Addr) (c n : Nat) (k u v x : Int) (w : World) (h : 40 < n) : Calls Try.prog 3 #[.slice A n c, .agg #[.int .i64 k, .int .i64 u, .int .i64 v, .int .u64 x]] w fun e w' => e = .returned (.bool true) ∧ Below w.heap.size w w' := by
  have T0 := Lib.hid ((Below.refl w.heap.size w).alloc (Nat.le_refl _) (.cells #[.int .i64 k, .int .i64 u, .int .i64 v, .int .u64 x] 25))
  have D1 := Lib.hid (shown_any (w.alloc (.cells #[.int .i64 k, .int .i64 u, .int .i64 v, .int .u64 x] 25)))
  have d1 : decide ((40 : Int) < (n : Int)) = true := by simp; omega
  have d2 : decide (40 < n) = true := by simp; omega
  go_enter Try.func3, Try.ntmps3
  go_wp2_with (go_at_call 8; ((with_reducible refine D1.out.mono ?_); rintro e w1 ⟨rfl, hb⟩; have H1 := Lib.hid (T0.out.trans (hb.mono T0.out.size)); clear hb))
  go_ret
  exact ⟨rfl, H1.out⟩
set_option maxRecDepth 100000 in
theorem stays_wrong (A : Option Addr) (c n : Nat) (g : List Arc) (k u v x : Int) (w : World) (hn : n = g.length) (hl : Arcs w A g) (h40 : n ≤ 40) (hr : rightB g = false) : Calls Try.prog 3 #[.slice A n c, .agg #[.int .i64 k, .int .i64 u, .int .i64 v, .int .u64 x]] w fun e w' => e = .returned (.bool true) ∧ Below w.heap.size w w' := by
  have T0 := Lib.hid ((Below.refl w.heap.size w).alloc (Nat.le_refl _) (.cells #[.int .i64 k, .int .i64 u, .int .i64 v, .int .u64 x] 25))
  have D1 := Lib.hid (shown_any (w.alloc (.cells #[.int .i64 k, .int .i64 u, .int .i64 v, .int .u64 x] 25)))
  have d1 : decide ((40 : Int) < (n : Int)) = false := by simp; omega
  have d2 : decide (40 < n) = false := by simp; omega
  have HR : Hid (∀ W, Below w.heap.size w W → Calls Try.prog 9 #[.slice A n c] W fun e w' => e = .returned (.bool false) ∧ Below W.heap.size W w') := Lib.hid (fun W hW => right_eq c hn (hl.below hW (Nat.le_refl _)) (by omega) hr)
  clear hl hr hn
  go_enter Try.func3, Try.ntmps3
  go_wp2_with (first
    | (go_at_call 8; ((with_reducible refine D1.out.mono ?_); rintro e w1 ⟨rfl, hb⟩; have H1 := Lib.hid (T0.out.trans (hb.mono T0.out.size)); have D2 := Lib.hid (HR.out _ H1.out); clear hb))
    | (go_at_call 9; ((with_reducible refine D2.out.mono ?_); rintro e w2 ⟨rfl, hb⟩; have H2 := Lib.hid (H1.out.trans (hb.mono H1.out.size)); clear hb)))
  go_ret
  exact ⟨rfl, H2.out⟩
theorem ans_len (l : List Arc) (o : Op) : (doA l o).list.length ≤ l.length := by
  unfold doA
  repeat' split
  all_goals first | exact Nat.zero_le _ | exact near_le l o.u
theorem fine13 {u : Int} (h1 : -9223372036854775808 ≤ u) (h2 : u ≤ 9223372036854775807) : (⟨13, u, 0, 0⟩ : Op).Fine := by unfold Op.Fine; simp only; omega
theorem fine16 {u v : Int} (h1 : -9223372036854775808 ≤ u) (h2 : u ≤ 9223372036854775807) (h3 : -9223372036854775808 ≤ v) (h4 : v ≤ 9223372036854775807) : (⟨16, u, v, 0⟩ : Op).Fine := by unfold Op.Fine; simp only; omega
section
variable {g : List Arc} {n c : Nat}
/-- What is asked of a graph behind. -/
theorem ask_eq {o : Op} (hk : o.k = 13 ∨ o.k = 16 ∨ o.k = 17) (hs : Rises g) (h40 : g.length ≤ 999) (ho : o.Fine) (hn : n = g.length) {a : Ans} (ha : doA g o = a) (W : World) (B : Option Addr) (d : Nat) (hB : Arcs W B g) :
    Calls Try.prog 10 #[.slice B n d, .agg #[.int .i64 o.k, .int .i64 o.u, .int .i64 o.v, .int .u64 o.w]] W fun e w' => ∃ B d C f, e = .returned (.tuple #[.slice B n d, .agg #[.int .i64 a.err, .bool a.is, .int .i64 a.n, .int .u64 a.w, .slice C a.list.length f]]) ∧ Arcs w' B g ∧ Sl w' C (a.list.map (Value.int .i64)) ∧ Below W.heap.size W w' :=
  do_eq d hn hB hs h40 ho (ask_do hk) ha hn.symm
end
theorem stays_any (A : Option Addr) (c n : Nat) (g : List Arc) (o : Op) (w : World) (hn : n = g.length) (hl : Arcs w A g) (ho : o.Fine) : Calls Try.prog 3 #[.slice A n c, .agg #[.int .i64 o.k, .int .i64 o.u, .int .i64 o.v, .int .u64 o.w]] w fun e w' => e = .returned (.bool true) ∧ Below w.heap.size w w' := by
  obtain ⟨k, u, v, x⟩ := o
  have ho' := ho
  obtain ⟨z1, z2, z3, z4, z5, z6, z7, z8⟩ := ho'
  simp only at z1 z2 z3 z4 z5 z6 z7 z8
  show Calls Try.prog 3 #[.slice A n c, .agg #[.int .i64 k, .int .i64 u, .int .i64 v, .int .u64 x]] w _
  by_cases h : 40 < n
  · exact stays_long A c n k u v x w h
  have h40 : n ≤ 40 := by omega
  cases hr : rightB g
  · exact stays_wrong A c n g k u v x w hn hl h40 hr
  have hR := R.ofB hr
  have hX := hR.do ⟨k, u, v, x⟩
  have hT := do_twice hR ⟨k, u, v, x⟩
  have hlen := len_do g ⟨k, u, v, x⟩
  have l1 := ans_len g ⟨k, u, v, x⟩
  have f13 := fine13 z3 z4
  have f16 := fine16 z3 z4 z5 z6
  -- an arm in which the graph stays
  have hold : doG g ⟨k, u, v, x⟩ = g → ∀ W B d, Arcs W B g → Calls Try.prog 10 #[.slice B n d, .agg #[.int .i64 k, .int .i64 u, .int .i64 v, .int .u64 x]] W fun e w' => ∃ B d C f, e = .returned (.tuple #[.slice B n d, .agg #[.int .i64 (doA g ⟨k, u, v, x⟩).err, .bool (doA g ⟨k, u, v, x⟩).is, .int .i64 (doA g ⟨k, u, v, x⟩).n, .int .u64 (doA g ⟨k, u, v, x⟩).w, .slice C (doA g ⟨k, u, v, x⟩).list.length f]]) ∧ Arcs w' B g ∧ Sl w' C ((doA g ⟨k, u, v, x⟩).list.map (Value.int .i64)) ∧ Below W.heap.size W w' :=
    fun q W B d hB => do_eq d (o := ⟨k, u, v, x⟩) hn hB hR.rises (by omega) ho q rfl hn.symm
  have e13 := fun W B d hB => ask_eq (g := g) (n := n) (o := ⟨13, u, 0, 0⟩) (.inl rfl) hR.rises (by omega) f13 hn rfl W B d hB
  have e16 := fun W B d hB => ask_eq (g := g) (n := n) (o := ⟨16, u, v, 0⟩) (.inr (.inl rfl)) hR.rises (by omega) f16 hn rfl W B d hB
  -- the graph behind it
  have y13 : ∀ a, doA (doG g ⟨k, u, v, x⟩) ⟨13, u, 0, 0⟩ = a → _ := fun a ha W B d hB => ask_eq (n := (doG g ⟨k, u, v, x⟩).length) (o := ⟨13, u, 0, 0⟩) (.inl rfl) hX.rises (by omega) f13 rfl (a := a) ha W B d hB
  have y16 : ∀ a, doA (doG g ⟨k, u, v, x⟩) ⟨16, u, v, 0⟩ = a → _ := fun a ha W B d hB => ask_eq (n := (doG g ⟨k, u, v, x⟩).length) (o := ⟨16, u, v, 0⟩) (.inr (.inl rfl)) hX.rises (by omega) f16 rfl (a := a) ha W B d hB
  have m1 : ∀ a, doA g ⟨k, u, v, x⟩ = a → _ := fun a ha W B (hB : Arcs W B g) => do_eq c (o := ⟨k, u, v, x⟩) hn hB hR.rises (by omega) ho rfl (a := a) ha rfl
  have m2 : ∀ a, doA (doG g ⟨k, u, v, x⟩) ⟨k, u, v, x⟩ = a → _ := fun a ha W B d (hB : Arcs W B (doG g ⟨k, u, v, x⟩)) => do_eq d (o := ⟨k, u, v, x⟩) rfl hB hX.rises (by omega) ho hT (a := a) ha rfl
  by_cases k11 : k = 11
  · subst k11
    cases hv : isV u
    · have nf : ¬ Fit ⟨11, u, v, x⟩ := fun q => by have := (keys_t q.2.2).1; rw [hv] at this; cases this
      have hk : keysB ⟨11, u, v, x⟩ = false := by unfold keysB; simp only; rw [show edgeKind 11 = false from rfl]; exact hv
      have hA : doA g ⟨11, u, v, x⟩ = ⟨4, false, 0, 0, []⟩ := doA_key (show (11 : Int) ≤ 11 by decide) (show (11 : Int) ≤ 17 by decide) hk
      have H := hold (doG_bad nf)
      rw [hA] at H
      exact stays_11_err A c n g _ _ u v x w hn hl h40 hr (Lib.hid fun W B hB => H W B c hB) (Lib.hid H) (Lib.hid e13) (Lib.hid e16)
    · have hf : Fit ⟨11, u, v, x⟩ := fit_of (by decide) (by decide) hv (fun q => by cases q)
      have q13 : Fit ⟨13, u, 0, 0⟩ := fit_of (by decide) (by decide) hv (fun q => by cases q)
      have i1 := addv_in (l := g) hf rfl
      have s1 := addv_same (l := g) hf rfl
      have a2 := doA_11 (l := doG g ⟨11, u, v, x⟩) hf rfl
      have a3 := doA_12 (l := doG g ⟨11, u, v, x⟩) q13 (.inr rfl)
      simp only at i1 s1 a2 a3
      rw [i1] at a2 a3
      have a1 := doA_11 (l := g) hf rfl
      simp only at a1
      cases hi : inB g u
      · rw [hi] at a1 s1
        exact stays_11_true A c n g _ _ _ u v x w hn hl h40 hr rfl (by omega) hX.right s1 (Lib.hid (m1 _ a1)) (Lib.hid (m2 _ a2)) (Lib.hid (y13 _ a3)) (Lib.hid (y16 _ rfl))
      · rw [hi] at a1 s1
        exact stays_11_false A c n g _ _ _ u v x w hn hl h40 hr rfl (by omega) hX.right s1 (Lib.hid (m1 _ a1)) (Lib.hid (m2 _ a2)) (Lib.hid (y13 _ a3)) (Lib.hid (y16 _ rfl))
  by_cases k12 : k = 12
  · subst k12
    cases hv : isV u
    · have nf : ¬ Fit ⟨12, u, v, x⟩ := fun q => by have := (keys_t q.2.2).1; rw [hv] at this; cases this
      have hk : keysB ⟨12, u, v, x⟩ = false := by unfold keysB; simp only; rw [show edgeKind 12 = false from rfl]; exact hv
      have hA : doA g ⟨12, u, v, x⟩ = ⟨4, false, 0, 0, []⟩ := doA_key (show (11 : Int) ≤ 12 by decide) (show (12 : Int) ≤ 17 by decide) hk
      have H := hold (doG_bad nf)
      rw [hA] at H
      exact stays_12_err A c n g _ _ u v x w hn hl h40 hr (Lib.hid fun W B hB => H W B c hB) (Lib.hid H) (Lib.hid e13) (Lib.hid e16)
    · have hf : Fit ⟨12, u, v, x⟩ := fit_of (by decide) (by decide) hv (fun q => by cases q)
      have q13 : Fit ⟨13, u, 0, 0⟩ := fit_of (by decide) (by decide) hv (fun q => by cases q)
      have i1 := remv_out (l := g) hf rfl
      have s1 := remv_same hR hf rfl
      have a2 := doA_12 (l := doG g ⟨12, u, v, x⟩) hf (.inl rfl)
      have a3 := doA_12 (l := doG g ⟨12, u, v, x⟩) q13 (.inr rfl)
      simp only at i1 s1 a2 a3
      rw [i1] at a2 a3
      have a1 := doA_12 (l := g) hf (.inl rfl)
      simp only at a1
      cases hi : inB g u
      · rw [hi] at a1 s1
        exact stays_12_false A c n g _ _ _ u v x w hn hl h40 hr rfl (by omega) hX.right s1 (Lib.hid (m1 _ a1)) (Lib.hid (m2 _ a2)) (Lib.hid (y13 _ a3)) (Lib.hid (y16 _ rfl))
      · rw [hi] at a1 s1
        exact stays_12_true A c n g _ _ _ u v x w hn hl h40 hr rfl (by omega) hX.right s1 (Lib.hid (m1 _ a1)) (Lib.hid (m2 _ a2)) (Lib.hid (y13 _ a3)) (Lib.hid (y16 _ rfl))
  by_cases k13 : k = 13
  · subst k13
    have H := hold (ask_do (.inl rfl))
    exact stays_13 A c n g _ _ _ u v x w hn hl h40 hr (by omega) (Lib.hid fun W B hB => H W B c hB) (Lib.hid H) (Lib.hid e13) (Lib.hid e16)
  by_cases k16 : k = 16
  · subst k16
    have H := hold (ask_do (.inr (.inl rfl)))
    exact stays_16 A c n g _ _ _ u v x w hn hl h40 hr (by omega) (Lib.hid fun W B hB => H W B c hB) (Lib.hid H) (Lib.hid e13) (Lib.hid e16)
  by_cases k17 : k = 17
  · subst k17
    have H := hold (ask_do (.inr (.inr rfl)))
    exact stays_17 A c n g _ _ _ u v x w hn hl h40 hr (by omega) (Lib.hid fun W B hB => H W B c hB) (Lib.hid H) (Lib.hid e13) (Lib.hid e16)
  by_cases k14 : k = 14
  · subst k14
    by_cases he : (doA g ⟨14, u, v, x⟩).err = 0
    · obtain ⟨hf, hb⟩ := ok_fit he
      have hb := hb (.inl rfl)
      have q16 : Fit ⟨16, u, v, 0⟩ := fit_of (by decide) (by decide) (keys_t hf.2.2).1 (fun _ => (keys_t hf.2.2).2 rfl)
      have a1 : doA g ⟨14, u, v, x⟩ = ⟨0, false, 0, 0, []⟩ := by rw [doA_14 hf (.inl rfl), hb]; rfl
      have b2 : both (doG g ⟨14, u, v, x⟩) ⟨14, u, v, x⟩ = true := by
        obtain ⟨q1, q2⟩ := both_iff.1 hb
        exact both_iff.2 ⟨inB_do q1 (fun q => by cases q.1), inB_do q2 (fun q => by cases q.1)⟩
      have a2 : doA (doG g ⟨14, u, v, x⟩) ⟨14, u, v, x⟩ = ⟨0, false, 0, 0, []⟩ := by rw [doA_14 hf (.inl rfl), b2]; rfl
      have a4 := doA_16 (l := doG g ⟨14, u, v, x⟩) q16 rfl
      have i1 := adde_in (l := g) hf rfl hb
      simp only at a4 i1
      rw [i1] at a4
      exact stays_14 A c n g _ _ _ u v x w hn hl h40 hr rfl (by omega) hX.right _ (Lib.hid (m1 _ a1)) (Lib.hid (m2 _ a2)) (Lib.hid (y13 _ rfl)) (Lib.hid (y16 _ a4))
    · have H := hold (err_do he)
      exact stays_14_err A c n g _ _ _ u v x w hn hl h40 hr (by simpa using he) he (by omega) (Lib.hid fun W B hB => H W B c hB) (Lib.hid H) (Lib.hid e13) (Lib.hid e16)
  by_cases k15 : k = 15
  · subst k15
    by_cases he : (doA g ⟨15, u, v, x⟩).err = 0
    · obtain ⟨hf, hb⟩ := ok_fit he
      have hb := hb (.inr rfl)
      have q16 : Fit ⟨16, u, v, 0⟩ := fit_of (by decide) (by decide) (keys_t hf.2.2).1 (fun _ => (keys_t hf.2.2).2 rfl)
      have a1 : doA g ⟨15, u, v, x⟩ = ⟨0, false, 0, 0, []⟩ := by rw [doA_14 hf (.inr rfl), hb]; rfl
      have b2 : both (doG g ⟨15, u, v, x⟩) ⟨15, u, v, x⟩ = true := by
        obtain ⟨q1, q2⟩ := both_iff.1 hb
        exact both_iff.2 ⟨inB_do q1 (fun q => by cases q.1), inB_do q2 (fun q => by cases q.1)⟩
      have a2 : doA (doG g ⟨15, u, v, x⟩) ⟨15, u, v, x⟩ = ⟨0, false, 0, 0, []⟩ := by rw [doA_14 hf (.inr rfl), b2]; rfl
      have a4 := doA_16 (l := doG g ⟨15, u, v, x⟩) q16 rfl
      have i1 := reme_out (l := g) hf rfl hb
      simp only at a4 i1
      rw [i1] at a4
      exact stays_15 A c n g _ _ _ u v x w hn hl h40 hr rfl (by omega) hX.right _ (Lib.hid (m1 _ a1)) (Lib.hid (m2 _ a2)) (Lib.hid (y13 _ rfl)) (Lib.hid (y16 _ a4))
    · have H := hold (err_do he)
      exact stays_15_err A c n g _ _ _ u v x w hn hl h40 hr (by simpa using he) he (by omega) (Lib.hid fun W B hB => H W B c hB) (Lib.hid H) (Lib.hid e13) (Lib.hid e16)
  have nf : ¬ Fit ⟨k, u, v, x⟩ := fun q => by have := q.1; have := q.2.1; simp only at *; omega
  have he : ¬ (doA g ⟨k, u, v, x⟩).err = 0 := by rcases bad_err (l := g) nf with q | q <;> omega
  have H := hold (doG_bad nf)
  exact stays_other A c n g _ _ _ k u v x w hn hl h40 hr (by simpa using he) he (by omega) (by simpa using k11) (by simpa using k12) (by simpa using k13) (by simpa using k14) (by simpa using k15) (by simpa using k16) (by simpa using k17) (Lib.hid fun W B hB => H W B c hB) (Lib.hid H) (Lib.hid e13) (Lib.hid e16)
end Go.Proofs.Ytmlcghbhkpbaeaa
