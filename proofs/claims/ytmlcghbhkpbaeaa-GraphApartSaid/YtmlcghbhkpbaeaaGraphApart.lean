/- GraphApart: the given statement, from its walk. For every input the law returns true and leaves its arguments as they read. -/
import Derived.Test.YtmlcghbhkpbaeaaRows
import Derived.Test.YtmlcghbhkpbaeaaApart
import Derived.Test.YtmlcghbhkpbaeaaOpen
import Derived.WalkKit
import Derived.ProofKit
import Derived.OpenShut
import Derived.ShutString
import Derived.ChangeOld
import Derived.Below
import Derived.Lib.SmallJoins
namespace Go.Proofs.Ytmlcghbhkpbaeaa.graphApartDone
open Go.ChangeShapes Go.WideShapes Go.ChangeAt Go.RowKit
open Go.ChangeMaps (open_string shut_string)
set_option linter.unusedVariables false

theorem own : ownKnob Try.prog.godebug = none := by kernel_rfl
theorem laidOut : laidOutB Try.prog = true := by kernel_rfl

set_option maxRecDepth 100000 in
theorem contract (H : Type) (enc : TypeId × Value → H) (W : World) (base : Nat) (args : Array Value) (ds gs : List (DataW H)) (before : List MemPlace)
    (hval0 : ∀ (j : Nat) t v, Try.f5.params[j]? = some t → args[j]? = some v → Value.okWide Try.prog W .any base t v)
    (hW : DataW.Whole enc Try.prog Try.f5.params.toList Rows.graphApartSpec.vars false W args.toList ds gs before) :
    Calls Try.prog 5 args W fun e W' => ∃ v, e = .returned v ∧ Rows.graphApartSpec.post enc Try.prog Try.f5 false true false false W args v W' := by
  have hval := hval0
  have hW' := hW
  obtain ⟨p, q, hA0, hV, rfl, hfz, hnd⟩ := hW
  have hA : DataW.TrodAll enc Try.prog W 0 (fun _ => true) true Try.f5.params.toList args.toList ds p := hA0
  rw [Try.params5] at hA hval
  obtain ⟨v0, vs0, d0, ds0, p0, q0, hargs, rfl, rfl, h0, r0⟩ := trodAll_cons hA
  obtain ⟨v1, vs1, d1, ds1, p1, q1, rfl, rfl, rfl, h1, r1⟩ := trodAll_cons r0
  obtain ⟨v2, vs2, d2, ds2, p2, q2, rfl, rfl, rfl, h2, r2⟩ := trodAll_cons r1
  obtain ⟨rfl, rfl, rfl⟩ := trodAll_nil r2
  obtain rfl : args = #[v0, v1, v2] := by cases args; simp_all
  obtain ⟨rfl, rfl⟩ := trodVars_none hV
  obtain ⟨a0, len0, cap0, rfl⟩ := okWide_slice Try.underlying22 (hval 0 22 v0 rfl rfl)
  have k0 := h0
  have lt0 : ∀ x ∈ p0, x.block < W.heap.size := by obtain ⟨m, hm⟩ := k0; exact DataW.trod_lt m _ _ _ hm
  obtain ⟨l0, rfl, w0⟩ : ∃ l : List Arc, len0 = l.length ∧ Arcs W a0 l := by
    obtain ⟨fuel, hf⟩ := h0
    obtain ⟨A, c, l, hcs, hl⟩ := open_arcs hf
    simp [Value.cells] at hcs
    obtain ⟨rfl, rfl, rfl⟩ := hcs
    exact ⟨l, rfl, hl⟩
  have k1 := h1
  have lt1 : ∀ x ∈ p1, x.block < W.heap.size := by obtain ⟨m, hm⟩ := k1; exact DataW.trod_lt m _ _ _ hm
  obtain ⟨c1_0, c1_1, c1_2, c1_3, y1_0, y1_1, y1_2, y1_3, m1, rfl, hd1, hp1, t1_0, t1_1, t1_2, t1_3⟩ := Go.Joins.open_agg4 Try.underlying25 (by kernel_rfl) (by kernel_rfl) (hval 1 25 v1 rfl rfl) h1
  obtain ⟨a1_0, e1_0, _, w1_0⟩ := DataW.trod_int Try.underlying3 t1_0
  obtain rfl : c1_0 = .int .i64 a1_0 := by simpa using e1_0
  obtain ⟨a1_1, e1_1, _, w1_1⟩ := DataW.trod_int Try.underlying3 t1_1
  obtain rfl : c1_1 = .int .i64 a1_1 := by simpa using e1_1
  obtain ⟨a1_2, e1_2, _, w1_2⟩ := DataW.trod_int Try.underlying3 t1_2
  obtain rfl : c1_2 = .int .i64 a1_2 := by simpa using e1_2
  obtain ⟨a1_3, e1_3, _, w1_3⟩ := DataW.trod_int Try.underlying23 t1_3
  obtain rfl : c1_3 = .int .u64 a1_3 := by simpa using e1_3
  have k2 := h2
  have lt2 : ∀ x ∈ p2, x.block < W.heap.size := by obtain ⟨m, hm⟩ := k2; exact DataW.trod_lt m _ _ _ hm
  obtain ⟨c2_0, c2_1, c2_2, c2_3, y2_0, y2_1, y2_2, y2_3, m2, rfl, hd2, hp2, t2_0, t2_1, t2_2, t2_3⟩ := Go.Joins.open_agg4 Try.underlying25 (by kernel_rfl) (by kernel_rfl) (hval 2 25 v2 rfl rfl) h2
  obtain ⟨a2_0, e2_0, _, w2_0⟩ := DataW.trod_int Try.underlying3 t2_0
  obtain rfl : c2_0 = .int .i64 a2_0 := by simpa using e2_0
  obtain ⟨a2_1, e2_1, _, w2_1⟩ := DataW.trod_int Try.underlying3 t2_1
  obtain rfl : c2_1 = .int .i64 a2_1 := by simpa using e2_1
  obtain ⟨a2_2, e2_2, _, w2_2⟩ := DataW.trod_int Try.underlying3 t2_2
  obtain rfl : c2_2 = .int .i64 a2_2 := by simpa using e2_2
  obtain ⟨a2_3, e2_3, _, w2_3⟩ := DataW.trod_int Try.underlying23 t2_3
  obtain rfl : c2_3 = .int .u64 a2_3 := by simpa using e2_3
  clear hA0 hval0
  have walk : Calls Try.prog 5 #[.slice a0 l0.length cap0, .agg #[.int .i64 a1_0, .int .i64 a1_1, .int .i64 a1_2, .int .u64 a1_3], .agg #[.int .i64 a2_0, .int .i64 a2_1, .int .i64 a2_2, .int .u64 a2_3]] W fun e w' => e = .returned (.bool true) ∧ Below W.heap.size W w' := by
    obtain ⟨x10, x11⟩ := bounds_i64 w1_0
    obtain ⟨x12, x13⟩ := bounds_i64 w1_1
    obtain ⟨x14, x15⟩ := bounds_i64 w1_2
    obtain ⟨x16, x17⟩ := bounds_u64 w1_3
    obtain ⟨x20, x21⟩ := bounds_i64 w2_0
    obtain ⟨x22, x23⟩ := bounds_i64 w2_1
    obtain ⟨x24, x25⟩ := bounds_i64 w2_2
    obtain ⟨x26, x27⟩ := bounds_u64 w2_3
    have f1 : (⟨a1_0, a1_1, a1_2, a1_3⟩ : Op).Fine := by unfold Op.Fine; simp only; omega
    have f2 : (⟨a2_0, a2_1, a2_2, a2_3⟩ : Op).Fine := by unfold Op.Fine; simp only; omega
    exact apart_any a0 cap0 _ l0 ⟨a1_0, a1_1, a1_2, a1_3⟩ ⟨a2_0, a2_1, a2_2, a2_3⟩ W rfl w0 f1 f2
  refine walk.mono fun e W' ⟨he, bel⟩ => ?_
  subst he
  exact ⟨_, rfl, _, _, _, [], _, [], hW', trodAll_mk1 (shut_bool Try.underlying4 _), (trodAll_cons_mk (Below.trod laidOut (by kernel_rfl) (of_decide_eq_true (by kernel_rfl)) k0 bel lt0) (trodAll_cons_mk (Below.trod laidOut (by kernel_rfl) (of_decide_eq_true (by kernel_rfl)) k1 bel lt1) (trodAll_cons_mk (Below.trod laidOut (by kernel_rfl) (of_decide_eq_true (by kernel_rfl)) k2 bel lt2) trodAll_mk0))), rfl, bel.frame _, fun h => by cases h⟩

set_option maxRecDepth 100000 in
theorem lifted (os : Os) (started : os.Started) (H : Type) (enc : TypeId × Value → H) :
    ReturnsInHanded {} Try.checked os 5 .any (Rows.graphApartSpec.pre6 enc Try.prog Try.f5 Rows.graphApartRow.domain false) (Rows.graphApartSpec.post enc Try.prog Try.f5 false true false false) := by
  refine returnsInHanded_of_change (C := Try.checked) own started (by kernel_rfl) Try.func5
    (ChangeSpec.witness6 (enc := enc) (C := Try.checked) false ⟨#[], #[Value.slice none 0 0, Value.agg #[Value.int .i64 0, Value.int .i64 0, Value.int .i64 0, Value.int .u64 0], Value.agg #[Value.int .i64 0, Value.int .i64 0, Value.int .i64 0, Value.int .u64 0]], []⟩ 8 (by kernel_rfl) (by kernel_rfl) (by kernel_rfl) (by kernel_rfl)) ?_
  intro W base args ds gs before hval0 hW hcnd _
  exact contract H enc W base args ds gs before hval0 hW

theorem proved : Rows.GraphApartSaid :=
  OpenClaim.holds_of_wide 5 Try.f5 rfl rfl rfl rfl rfl rfl rfl ⟨rfl, rfl, rfl, rfl, rfl⟩ rfl rfl rfl rfl rfl (by kernel_rfl) Try.func5 (by kernel_rfl)
    (of_decide_eq_true (by kernel_rfl)) (by unfold Func.isWrapper; first | (rw [if_pos (by decide +kernel)]; kernel_rfl) | (rw [if_neg (by decide +kernel)]; exact ⟨rfl, rfl⟩))
    (fun os started H enc _ => lifted os started H enc)
end Go.Proofs.Ytmlcghbhkpbaeaa.graphApartDone
