/- Laws of the bundles that only these texts name. -/
import Derived.Test.YtpdfmfkoopdfgaaGreatDoorC00
import Derived.Test.YtpdfmfkoopdfgaaGreatDoorB20
import Derived.Test.YtpdfmfkoopdfgaaGreatDoorB48
set_option linter.unusedVariables false
set_option linter.unusedSimpArgs false
section
namespace Go.Proofs.YtpdfmfkoopdfgaaGreatDoor.Gr
set_option maxRecDepth 100000
open Go.RowKit Aid
theorem mem_withL {l : List Arc} {x a : Arc} : a ∈ withL l x ↔ a ∈ l ∨ (hasB l x.u x.v = false ∧ a = x) := by
  cases hb : hasB l x.u x.v
  · rw [withL_miss hb]
    unfold putIn
    conv => rhs; rw [← List.take_append_drop (place l ⟨x.u, x.v, 0⟩) l]
    simp only [List.mem_append, List.mem_cons, true_and]
    constructor
    · rintro (h | rfl | h)
      · exact .inl (.inl h)
      · exact .inr rfl
      · exact .inl (.inr h)
    · rintro ((h | h) | rfl)
      · exact .inl h
      · exact .inr (.inr h)
      · exact .inr (.inl rfl)
  · rw [withL_hit hb]; simp
theorem mem_kept {l : List Arc} {p : Arc → Bool} {a : Arc} : a ∈ kept l p ↔ a ∈ l ∧ p a = false := by unfold kept; rw [List.mem_filter]; simp

theorem mem_do {l : List Arc} {o : Op} {a : Arc} : a ∈ doG l o ↔ (a ∈ l ∧ ¬ Rem l o a) ∨ Add l o a := by
  by_cases hf : Fit o
  · by_cases h1 : o.k = 11
    · rw [doG_11 hf h1, mem_withL]
      unfold Rem Add
      have a1 : o.k ≠ 12 := by omega
      have a2 : o.k ≠ 15 := by omega
      have a3 : o.k ≠ 14 := by omega
      simp [hf, h1]
    · by_cases h2 : o.k = 12
      · rw [doG_12 hf h2, mem_kept]
        unfold Rem Add ends
        have a2 : o.k ≠ 15 := by omega
        have a3 : o.k ≠ 14 := by omega
        simp [hf, h2]
      · by_cases h3 : o.k = 14
        · cases hb : both l o
          · rw [doG_else h1 h2 (fun _ => hb) (fun q => by omega)]
            unfold Rem Add
            simp [h3, hb]
          · rw [doG_14 hf h3 hb, mem_withL]
            unfold Rem Add
            simp [hf, h3, hb]
        · by_cases h4 : o.k = 15
          · cases hb : both l o
            · rw [doG_else h1 h2 (fun q => by omega) (fun _ => hb)]
              unfold Rem Add
              simp [h1, h2, h3, hb]
            · rw [doG_15 hf h4 hb, mem_kept]
              unfold Rem Add isE
              simp [hf, h4, hb]
          · rw [doG_else h1 h2 (fun q => absurd q h3) (fun q => absurd q h4)]
            unfold Rem Add
            simp [h1, h2, h3, h4]
  · rw [doG_bad hf]
    unfold Rem Add
    simp [hf]
theorem inB_iff {l : List Arc} {u : Int} : inB l u = true ↔ ∃ a ∈ l, a.u = u ∧ a.v = -1 := hasB_iff
theorem both_iff {l : List Arc} {o : Op} : both l o = true ↔ inB l o.u = true ∧ inB l o.v = true := by unfold both; rw [Bool.and_eq_true]
/-- A vertex' row stays, but where the vertex goes. -/
theorem inB_do {l : List Arc} {o : Op} {y : Int} (h : inB l y = true) (hy : ¬ (o.k = 12 ∧ o.u = y)) : inB (doG l o) y = true := by
  obtain ⟨a, ha, h1, h2⟩ := inB_iff.1 h
  refine inB_iff.2 ⟨a, mem_do.2 (.inl ⟨ha, ?_⟩), h1, h2⟩
  rintro ⟨hf, (⟨hk, q | q⟩ | ⟨hk, _, _, q⟩)⟩
  · exact hy ⟨hk, by omega⟩
  · have := hf.u; omega
  · have := hf.v (.inr (.inl hk)); omega
theorem R.do {l : List Arc} (h : R l) (o : Op) : R (doG l o) := by
  by_cases hf : Fit o
  · refine ⟨rises_do h.rises o, fun a ha => ?_⟩
    rcases mem_do.1 ha with ⟨ha, hr⟩ | ⟨_, (⟨hk, hn, rfl⟩ | ⟨hk, hb, hn, rfl⟩)⟩
    · obtain ⟨q1, q2, q3, q4, q5⟩ := h.row a ha
      exact ⟨q1, q2, q3, inB_do q4 fun q => hr ⟨hf, .inl ⟨q.1, by omega⟩⟩, fun hv => inB_do (q5 hv) fun q => hr ⟨hf, .inl ⟨q.1, by omega⟩⟩⟩
    · exact ⟨(keys_t hf.2.2).1, fun _ => rfl, fun q => absurd rfl q, inB_iff.2 ⟨_, ha, rfl, rfl⟩, fun q => absurd rfl q⟩
    · have hv := hf.v (.inl hk)
      have hb' := both_iff.1 hb
      exact ⟨(keys_t hf.2.2).1, fun q => absurd q (by simp only; omega), fun _ => (keys_t hf.2.2).2 (decide_eq_true (.inl hk)), inB_do hb'.1 (fun q => by omega), fun _ => inB_do hb'.2 (fun q => by omega)⟩
  · rw [doG_bad hf]; exact h
end Go.Proofs.YtpdfmfkoopdfgaaGreatDoor.Gr
end
section
namespace Go.Proofs.YtpdfmfkoopdfgaaGreatDoor
set_option maxRecDepth 100000
open Go.RowKit Go.ChangeShapes Go.WideShapes Aid Gr Hs
variable {H : Type} {enc : TypeId × Value → H} {w : World} {base : Nat} {spare : Nat → Bool} {held : Bool}
theorem cells53 : Tryz.prog.cellsOf 53 = 11 := by kernel_rfl
theorem list11 {α : Type} {l : List α} (h : l.length = 11) : ∃ a b c d e f g i j k m, l = [a, b, c, d, e, f, g, i, j, k, m] := by
  match l, h with
  | [a, b, c, d, e, f, g, i, j, k, m], _ => exact ⟨a, b, c, d, e, f, g, i, j, k, m, rfl⟩
/-- An answer's five cells. -/
theorem open_out {n : Nat} {cs : List Value} {x : DataW H × List MemPlace} (h : DataW.trod enc Tryz.prog w base spare held n 41 cs = some x) : ∃ (a : Ans) (A : Option Addr) (c : Nat), a.list.length ≤ c ∧ c ≤ 9223372036854775807 ∧ Sl w A (a.list.map (Value.int .i64)) ∧ cs = [.int .i64 a.err, .bool a.is, .int .i64 a.n, .int .u64 a.w, .slice A a.list.length c] := by
  obtain ⟨xs, k, rfl, _, hlen, hxl, hf⟩ := DataW.trod_struct Tryz.underlying41 h
  rw [Hs.cellsOf28] at hlen
  match cs, hlen, xs, hxl with
  | [c0, c1, c2, c3, c4], _, [t0, t1, t2, t3, t4], _ =>
    have r0 := hf 0 _ rfl
    have r1 := hf 1 _ rfl
    have r2 := hf 2 _ rfl
    have r3 := hf 3 _ rfl
    have r4 := hf 4 _ rfl
    simp [Gr.cellsOf3, Hs.cellsOf25, Hs.cellsOf24, Hs.cellsOf4, Hs.cellsOf26] at r0 r1 r2 r3 r4
    obtain ⟨er, e8, _, _⟩ := DataW.trod_int Tryz.underlying39 r0
    obtain ⟨is, e9, _⟩ := DataW.trod_bool Tryz.underlying4 r1
    obtain ⟨nn, e10, _, _⟩ := DataW.trod_int Tryz.underlying3 r2
    obtain ⟨ww, e11, _, _⟩ := DataW.trod_int Tryz.underlying36 r3
    obtain ⟨A, cap, l, e12, hlc, hcm, hsl⟩ := Hs.open_ints r4
    simp at e8 e9 e10 e11 e12
    subst e8 e9 e10 e11 e12
    exact ⟨⟨er, is, nn, ww, l⟩, A, cap, hlc, hcm, hsl, rfl⟩
theorem open_ends {r : Go.Reach} {b0 : Nat} {v : Value} {d : DataW H} {p : List MemPlace} (hv : Value.okWide Tryz.prog w r b0 53 v) (h : DataW.Trod enc Tryz.prog w base spare held 53 v d p) :
    ∃ (G : Option Addr) (gc : Nat) (g : List Arc) (A : Option Addr) (c : Nat) (l : List Cl) (o : Gr.Op) (a : Ans) (B : Option Addr) (q : Nat), v = .agg #[.slice G g.length gc, .slice A l.length c, .int .i64 o.k, .int .i64 o.u, .int .i64 o.v, .int .u64 o.w, .int .i64 a.err, .bool a.is, .int .i64 a.n, .int .u64 a.w, .slice B a.list.length q] ∧ Arcs w G g ∧ Cls w A l ∧ (∀ a ∈ l, a.Fits) ∧ l.length ≤ c ∧ c ≤ 9223372036854775807 ∧ o.Fine ∧ a.list.length ≤ q ∧ q ≤ 9223372036854775807 ∧ Sl w B (a.list.map (Value.int .i64)) := by
  obtain ⟨cs, rfl, hsz⟩ := okWide_struct Tryz.underlying53 hv
  obtain ⟨n, hf⟩ := h
  obtain ⟨xs, k, rfl, _, hlen, hxl, hg⟩ := DataW.trod_struct Tryz.underlying53 hf
  rw [cells53] at hsz
  obtain ⟨c0, c1, c2, c3, c4, c5, c6, c7, c8, c9, c10, hcs⟩ := list11 (l := cs.toList) (by simpa using hsz)
  have hcs' : cs = #[c0, c1, c2, c3, c4, c5, c6, c7, c8, c9, c10] := by rw [← Array.toArray_toList (xs := cs), hcs]
  subst hcs'
  match xs, hxl with
  | [y0, y1, y2, y3], _ =>
    have g0 := hg 0 _ rfl
    have g1 := hg 1 _ rfl
    have g2 := hg 2 _ rfl
    have g3 := hg 3 _ rfl
    simp [cells22, cells23, Hs.cellsOf28, Hs.cellsOf30, Value.cells] at g0 g1 g2 g3
    obtain ⟨G, gc, g, e0, hG⟩ := Gr.open_arcs g0
    obtain ⟨A, c, l, e1, h1, h2, h3, hA⟩ := Hs.open_calls g1
    obtain ⟨o, ho, e2⟩ := open_op g2
    obtain ⟨a, B, q, h4, h5, hS, e3⟩ := open_out g3
    simp at e0 e1 e2 e3
    obtain ⟨rfl, rfl, rfl, rfl⟩ := e2
    obtain ⟨rfl, rfl, rfl, rfl, rfl⟩ := e3
    subst e0 e1
    exact ⟨G, gc, g, A, c, l, o, a, B, q, rfl, hG, hA, h3, h1, h2, ho, h4, h5, hS⟩
end Go.Proofs.YtpdfmfkoopdfgaaGreatDoor
end
