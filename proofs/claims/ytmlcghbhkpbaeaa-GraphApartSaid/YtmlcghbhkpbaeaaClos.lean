/- The predicates of graph.Do; graph.without; graph.keys. -/
import Derived.Test.YtmlcghbhkpbaeaaDel
namespace Go.Proofs.Ytmlcghbhkpbaeaa
open Go.RowKit Aid

/-- An operation. -/
structure Op where
  k : Int
  u : Int
  v : Int
  w : Int
def Op.Fine (o : Op) : Prop := -9223372036854775808 ≤ o.k ∧ o.k ≤ 9223372036854775807 ∧ -9223372036854775808 ≤ o.u ∧ o.u ≤ 9223372036854775807 ∧ -9223372036854775808 ≤ o.v ∧ o.v ≤ 9223372036854775807 ∧ 0 ≤ o.w ∧ o.w < 18446744073709551616
def Op.val (o : Op) : Value := .agg #[.int .i64 o.k, .int .i64 o.u, .int .i64 o.v, .int .u64 o.w]
/-- An operation lies in a box. -/
def OpAt (w : World) (b : Nat) (o : Op) : Prop :=
  w.cell? ⟨b, 0, none⟩ = some (.int .i64 o.k) ∧ w.cell? ⟨b, 1, none⟩ = some (.int .i64 o.u) ∧ w.cell? ⟨b, 2, none⟩ = some (.int .i64 o.v) ∧ w.cell? ⟨b, 3, none⟩ = some (.int .u64 o.w)
theorem OpAt.lt {w : World} {b : Nat} {o : Op} (h : OpAt w b o) : b < w.heap.size := World.block_lt_of_cell? w _ h.1
theorem OpAt.below {B : Nat} {w w' : World} {b : Nat} {o : Op} (h : OpAt w b o) (hb : Below B w w') (hB : w.heap.size ≤ B) : OpAt w' b o := by
  have hlt := Nat.lt_of_lt_of_le h.lt hB
  obtain ⟨h1, h2, h3, h4⟩ := h
  exact ⟨(hb.cell (p := ⟨b, 0, none⟩) hlt).trans h1, (hb.cell (p := ⟨b, 1, none⟩) hlt).trans h2, (hb.cell (p := ⟨b, 2, none⟩) hlt).trans h3, (hb.cell (p := ⟨b, 3, none⟩) hlt).trans h4⟩
def ends (o : Op) (a : Arc) : Bool := decide (a.u = o.u ∨ a.v = o.u)
def isE (o : Op) (a : Arc) : Bool := decide (a.u = o.u ∧ a.v = o.v)
theorem do1_any (o : Op) (a : Arc) (b : Nat) (w : World) (h : OpAt w b o) : Calls Try.prog 23 #[a.val, .pointer (some ⟨b, 0, none⟩)] w fun e w' => e = .returned (.bool (ends o a)) ∧ Below w.heap.size w w' := by
  have HA := Lib.hid ((Below.refl w.heap.size w).alloc (Nat.le_refl _) (.cells #[.int .i64 a.u, .int .i64 a.v, .int .u64 a.w] 41))
  have ho := h.below HA.out (Nat.le_refl _)
  obtain ⟨_, c1, _, _⟩ := ho
  clear h
  unfold Arc.val
  cases h1 : (a.u == o.u)
  · cases h2 : (a.v == o.u)
    · have hr : ends o a = false := by unfold ends; simp only [beq_eq_false_iff_ne] at h1 h2; simp [h1, h2]
      rw [hr]
      go_enter Try.func23, Try.ntmps23
      go_wp2
      go_ret
      exact ⟨rfl, HA.out⟩
    · have hr : ends o a = true := by unfold ends; simp only [beq_iff_eq] at h2; simp [h2]
      rw [hr]
      go_enter Try.func23, Try.ntmps23
      go_wp2
      go_ret
      exact ⟨rfl, HA.out⟩
  · have hr : ends o a = true := by unfold ends; simp only [beq_iff_eq] at h1; simp [h1]
    rw [hr]
    go_enter Try.func23, Try.ntmps23
    go_wp2
    go_ret
    exact ⟨rfl, HA.out⟩
theorem do2_any (o : Op) (a : Arc) (b : Nat) (w : World) (h : OpAt w b o) : Calls Try.prog 24 #[a.val, .pointer (some ⟨b, 0, none⟩)] w fun e w' => e = .returned (.bool (isE o a)) ∧ Below w.heap.size w w' := by
  have HA := Lib.hid ((Below.refl w.heap.size w).alloc (Nat.le_refl _) (.cells #[.int .i64 a.u, .int .i64 a.v, .int .u64 a.w] 41))
  have ho := h.below HA.out (Nat.le_refl _)
  obtain ⟨_, c1, c2, _⟩ := ho
  clear h
  unfold Arc.val
  cases h1 : (a.u == o.u)
  · have hr : isE o a = false := by unfold isE; simp only [beq_eq_false_iff_ne] at h1; simp [h1]
    rw [hr]
    go_enter Try.func24, Try.ntmps24
    go_wp2
    go_ret
    exact ⟨rfl, HA.out⟩
  · cases h2 : (a.v == o.v)
    · have hr : isE o a = false := by unfold isE; simp only [beq_eq_false_iff_ne] at h2; simp [h2]
      rw [hr]
      go_enter Try.func24, Try.ntmps24
      go_wp2
      go_ret
      exact ⟨rfl, HA.out⟩
    · have hr : isE o a = true := by unfold isE; simp only [beq_iff_eq] at h1 h2; simp [h1, h2]
      rw [hr]
      go_enter Try.func24, Try.ntmps24
      go_wp2
      go_ret
      exact ⟨rfl, HA.out⟩
theorem says1 {o : Op} {b : Nat} {w : World} (h : OpAt w b o) : Says 23 #[.pointer (some ⟨b, 0, none⟩)] (ends o) w := fun W a hW => do1_any o a b W (h.below hW (Nat.le_refl _))
theorem says2 {o : Op} {b : Nat} {w : World} (h : OpAt w b o) : Says 24 #[.pointer (some ⟨b, 0, none⟩)] (isE o) w := fun W a hW => do2_any o a b W (h.below hW (Nat.le_refl _))
/-- A function value's call goes to the function. -/
theorem callIn {P : Program} {f : FuncId} {fn : Func} {c : Code} (hf : P.funcs[f]? = some fn) (hname : (fn.name == "runtime.NumGoroutine") = false) (hb : fn.body = some c) (args : Array Value) (w : World) :
    (callFunc f args).run P w = .ok (.enter f args) w := by
  have h1 : fn.name ≠ "runtime.NumGoroutine" := by simpa using hname
  simp [callFunc, hf, h1, hb]
theorem call23 : ∀ args w, (callFunc 23 args).run Try.prog w = .ok (.enter 23 args) w := fun args w => callIn Try.func23 (by kernel_rfl) rfl args w
theorem call24 : ∀ args w, (callFunc 24 args).run Try.prog w = .ok (.enter 24 args) w := fun args w => callIn Try.func24 (by kernel_rfl) rfl args w
theorem call29 : ∀ args w, (callFunc 29 args).run Try.prog w = .ok (.enter 29 args) w := fun args w => callIn Try.func29 (by kernel_rfl) rfl args w
theorem without_any (gf : Nat) (lb : Array Value) (eg : ∀ args w, (callFunc gf args).run Try.prog w = .ok (.enter gf args) w) (p : Arc → Bool) (A : Option Addr) (c n : Nat) (l : List Arc) (w : World) (hn : n = l.length) (hl : Arcs w A l) (h40 : l.length ≤ 1000) (hp : Says gf lb p w) :
    Calls Try.prog 22 #[.slice A n c, .func (.func gf) #[] lb] w fun e w' => ∃ B d, e = .returned (.slice B (kept l p).length d) ∧ Arcs w' B (kept l p) ∧ Below w.heap.size w w' := by
  subst hn
  have HC := Lib.hid (clone_any A c l.length l w rfl hl h40)
  have HF := Lib.hid hl.2.1
  have HP := Lib.hid hp
  clear hl hp
  go_enter Try.func22, Try.ntmps22
  go_wp2_with (first
    | (go_at_call 35; ((with_reducible refine HC.out.mono ?_); rintro e w1 ⟨B, d, rfl, ho, hb⟩; have HD := Lib.hid (delete_any gf lb eg p w B d l.length l w1 rfl h40 HF.out ho hb HP.out); clear ho hb))
    | (go_at_call 36; ((with_reducible refine HD.out.mono ?_); rintro e w2 ⟨B2, d2, rfl, h1, h2⟩; have H1 := Lib.hid h1; have H2 := Lib.hid h2; clear h1 h2)))
  go_ret
  exact ⟨_, _, rfl, H1.out, H2.out⟩
def edgeKind (k : Int) : Bool := decide (k = 14 ∨ k = 15 ∨ k = 16)
def keysB (o : Op) : Bool := if edgeKind o.k then isV o.u && isV o.v else isV o.u
theorem err0 (b : Bool) : (errV b == 0) = b := by unfold errV; cases b <;> rfl
theorem keys_edge (k u v w : Int) (W : World) (hk : k = 14 ∨ k = 15 ∨ k = 16) : Calls Try.prog 19 #[.agg #[.int .i64 k, .int .i64 u, .int .i64 v, .int .u64 w]] W fun e w' => e = .returned (.bool (isV u && isV v)) ∧ Below W.heap.size W w' := by
  have hb1 := Lib.hid ((Below.refl W.heap.size W).alloc (Nat.le_refl _) (.cells #[.int .i64 k, .int .i64 u, .int .i64 v, .int .u64 w] 25))
  have H0 := Lib.hid (err0 (isV u && isV v))
  rcases hk with rfl | rfl | rfl <;>
  · go_enter Try.func19, Try.ntmps19
    go_wp2_with (first
      | (go_at_call 32; (refine (vertex_any u _).mono ?_; rintro e w' ⟨⟨k1, rfl⟩, rfl⟩))
      | (go_at_call 33; (refine (edge_any u v _).mono ?_; rintro e w' ⟨⟨k2, rfl⟩, rfl⟩)))
    go_ret
    exact ⟨congrArg (fun b => Ending.returned (Value.bool b)) H0.out, hb1.out⟩
theorem keys_plain (k u v w : Int) (W : World) (h1 : (k == 14) = false) (h2 : (k == 15) = false) (h3 : (k == 16) = false) : Calls Try.prog 19 #[.agg #[.int .i64 k, .int .i64 u, .int .i64 v, .int .u64 w]] W fun e w' => e = .returned (.bool (isV u)) ∧ Below W.heap.size W w' := by
  have hb1 := Lib.hid ((Below.refl W.heap.size W).alloc (Nat.le_refl _) (.cells #[.int .i64 k, .int .i64 u, .int .i64 v, .int .u64 w] 25))
  have H0 := Lib.hid (err0 (isV u))
  go_enter Try.func19, Try.ntmps19
  go_wp2_with (go_at_call 32; (refine (vertex_any u _).mono ?_; rintro e w' ⟨⟨k1, rfl⟩, rfl⟩))
  go_ret
  exact ⟨congrArg (fun b => Ending.returned (Value.bool b)) H0.out, hb1.out⟩
theorem keys_any (o : Op) (W : World) : Calls Try.prog 19 #[o.val] W fun e w' => e = .returned (.bool (keysB o)) ∧ Below W.heap.size W w' := by
  obtain ⟨k, u, v, w⟩ := o
  cases h : edgeKind k
  · have hk := of_decide_eq_false h
    have e : keysB ⟨k, u, v, w⟩ = isV u := by unfold keysB; rw [show edgeKind k = false from h]; rfl
    rw [e]
    exact keys_plain k u v w W (by simp; omega) (by simp; omega) (by simp; omega)
  · have hk := of_decide_eq_true h
    have e : keysB ⟨k, u, v, w⟩ = (isV u && isV v) := by unfold keysB; rw [show edgeKind k = true from h]; rfl
    rw [e]
    exact keys_edge k u v w W hk
end Go.Proofs.Ytmlcghbhkpbaeaa
