/- HOpen. -/
import Derived.Test.YtpdfmfkoopdfgaaGreatDoorB10
import Derived.Deep.Slices
import Derived.WalkKit
import Derived.ProofKit
import Derived.OpenShut
import Derived.ChangeOld
set_option linter.unusedVariables false
namespace Go.Proofs.YtpdfmfkoopdfgaaGreatDoor.Hs
set_option maxRecDepth 100000
open Go.RowKit Go.ChangeShapes Go.WideShapes Aid

instance : Inhabited Cl := ⟨⟨0, 0, 0, 0, 0, 0, 0, 0, 0, false, 0, 0, [], none, 0⟩⟩
theorem cellsOf32 : Tryz.prog.cellsOf 43 = 13 := by kernel_rfl
theorem cellsOf30 : Tryz.prog.cellsOf 38 = 4 := by kernel_rfl
theorem cellsOf28 : Tryz.prog.cellsOf 41 = 5 := by kernel_rfl
theorem cellsOf26 : Tryz.prog.cellsOf 33 = 1 := by kernel_rfl
theorem cellsOf24 : Tryz.prog.cellsOf 39 = 1 := by kernel_rfl
theorem cellsOf25 : Tryz.prog.cellsOf 36 = 1 := by kernel_rfl
theorem cellsOf4 : Tryz.prog.cellsOf 4 = 1 := by kernel_rfl
theorem cellsOf3 : Tryz.prog.cellsOf 3 = 1 := by kernel_rfl
/-- A call's list is no longer than its place. -/
def Cl.Fits (a : Cl) : Prop := a.list.length ≤ a.cap ∧ a.cap ≤ 9223372036854775807 ∧ (-9223372036854775808 ≤ a.k ∧ a.k ≤ 9223372036854775807) ∧ (-9223372036854775808 ≤ a.u ∧ a.u ≤ 9223372036854775807) ∧ (-9223372036854775808 ≤ a.v ∧ a.v ≤ 9223372036854775807) ∧ (0 ≤ a.x ∧ a.x < 18446744073709551616)
section
variable {H : Type} {enc : TypeId × Value → H} {w : World} {base : Nat} {spare : Nat → Bool} {held : Bool}
theorem open_ints {n : Nat} {cs : List Value} {x : DataW H × List MemPlace} (h : DataW.trod enc Tryz.prog w base spare held n 33 cs = some x) : ∃ (A : Option Addr) (c : Nat) (l : List Int), cs = [.slice A l.length c] ∧ l.length ≤ c ∧ c ≤ 9223372036854775807 ∧ Sl w A (l.map (Value.int .i64)) := by
  rcases Go.ChangeShapes.open_ints Tryz.underlying33 Tryz.underlying3 cellsOf3 h with ⟨rfl, _⟩ | ⟨a, len, cap, zs, rfl, _, hl, hm, hz, _, hc, _⟩
  · exact ⟨none, 0, [], rfl, by simp, by simp, fun h => by simp at h⟩
  · have hle : len ≤ zs.length := by rw [hz]; split <;> omega
    have hlen : (zs.take len).length = len := by rw [List.length_take]; omega
    refine ⟨some a, cap, zs.take len, by rw [hlen], by omega, by unfold maxLen at hm; omega, fun hp => ?_⟩
    rw [List.length_map, hlen] at hp
    obtain ⟨b, off, spot⟩ := a
    have hspot : spot = none := by simpa [Addr.add] using World.cell?_spot (hc 0 (by omega))
    subst hspot
    refine ⟨b, off, rfl, fun j u hj => ?_⟩
    rw [List.getElem?_map] at hj
    obtain ⟨z, hz1, rfl⟩ := Option.map_eq_some_iff.1 hj
    obtain ⟨hj2, hz2⟩ := List.getElem?_eq_some_iff.1 hz1
    have hj3 : j < len := by rw [hlen] at hj2; exact hj2
    have h9 := hc j (by omega)
    rw [addr_add] at h9
    rw [h9, ← hz2, List.getElem_take, List.getD_eq_getElem?_getD, List.getElem?_eq_getElem (by omega)]
    rfl
theorem open_call {n : Nat} {cs : List Value} {x : DataW H × List MemPlace} (h : DataW.trod enc Tryz.prog w base spare held n 43 cs = some x) : ∃ a : Cl, a.Fits ∧ Sl w a.A (a.list.map (Value.int .i64)) ∧ cs = a.cells := by
  obtain ⟨xs, k, rfl, _, hlen, hxl, hf⟩ := DataW.trod_struct Tryz.underlying43 h
  rw [cellsOf32] at hlen
  match cs, hlen, xs, hxl with
  | [c0, c1, c2, c3, c4, c5, c6, c7, c8, c9, c10, c11, c12], _, [y0, y1, y2, y3, y4, y5], _ =>
    have g0 := hf 0 _ rfl
    have g1 := hf 1 _ rfl
    have g2 := hf 2 _ rfl
    have g3 := hf 3 _ rfl
    have g4 := hf 4 _ rfl
    have g5 := hf 5 _ rfl
    simp [cellsOf3, cellsOf30, cellsOf28] at g0 g1 g2 g3 g4 g5
    obtain ⟨xs1, k1, rfl, _, _, hxl1, hf1⟩ := DataW.trod_struct Tryz.underlying38 g1
    obtain ⟨xs2, k2, _, _, _, hxl2, hf2⟩ := DataW.trod_struct Tryz.underlying41 g5
    match xs1, hxl1, xs2, hxl2 with
    | [z0, z1, z2, z3], _, [t0, t1, t2, t3, t4], _ =>
      have p0 := hf1 0 _ rfl
      have p1 := hf1 1 _ rfl
      have p2 := hf1 2 _ rfl
      have p3 := hf1 3 _ rfl
      have r0 := hf2 0 _ rfl
      have r1 := hf2 1 _ rfl
      have r2 := hf2 2 _ rfl
      have r3 := hf2 3 _ rfl
      have r4 := hf2 4 _ rfl
      simp [cellsOf3, cellsOf25] at p0 p1 p2 p3
      simp [cellsOf3, cellsOf25, cellsOf24, cellsOf4, cellsOf26] at r0 r1 r2 r3 r4
      obtain ⟨me, e0, _, _⟩ := DataW.trod_int Tryz.underlying3 g0
      obtain ⟨kk, e1, _, wk⟩ := DataW.trod_int Tryz.underlying3 p0
      obtain ⟨u, e2, _, wu⟩ := DataW.trod_int Tryz.underlying3 p1
      obtain ⟨v, e3, _, wv⟩ := DataW.trod_int Tryz.underlying3 p2
      obtain ⟨xx, e4, _, wx⟩ := DataW.trod_int Tryz.underlying36 p3
      obtain ⟨era, e5, _, _⟩ := DataW.trod_int Tryz.underlying3 g2
      obtain ⟨fr, e6, _, _⟩ := DataW.trod_int Tryz.underlying3 g3
      obtain ⟨to, e7, _, _⟩ := DataW.trod_int Tryz.underlying3 g4
      obtain ⟨er, e8, _, _⟩ := DataW.trod_int Tryz.underlying39 r0
      obtain ⟨is, e9, _⟩ := DataW.trod_bool Tryz.underlying4 r1
      obtain ⟨nn, e10, _, _⟩ := DataW.trod_int Tryz.underlying3 r2
      obtain ⟨ww, e11, _, _⟩ := DataW.trod_int Tryz.underlying36 r3
      obtain ⟨A, cap, l, e12, hlc, hcm, hsl⟩ := open_ints r4
      have bk := bounds_i64 wk
      have bu := bounds_i64 wu
      have bv := bounds_i64 wv
      have bx := bounds_u64 wx
      refine ⟨⟨me, kk, u, v, xx, era, fr, to, er, is, nn, ww, l, A, cap⟩, ⟨hlc, hcm, by simp only; omega, by simp only; omega, by simp only; omega, by simp only; omega⟩, hsl, ?_⟩
      unfold Cl.cells
      simp at e0 e1 e2 e3 e4 e5 e6 e7 e8 e9 e10 e11 e12
      subst e0 e1 e2 e3 e4 e5 e6 e7 e8 e9 e10 e11 e12
      rfl
theorem open_calls {fuel : Nat} {cs : List Value} {x : DataW H × List MemPlace} (h : DataW.trod enc Tryz.prog w base spare held fuel 23 cs = some x) : ∃ (A : Option Addr) (c : Nat) (l : List Cl), cs = [.slice A l.length c] ∧ l.length ≤ c ∧ c ≤ 9223372036854775807 ∧ (∀ a ∈ l, a.Fits) ∧ Cls w A l := by
  rcases Go.Deep.open_slice Tryz.underlying23 h with ⟨rfl, _⟩ | ⟨a, len, cap, m, n, D, Pl, rfl, hb, hl, hm, hmm, _, hx⟩
  · exact ⟨none, 0, [], rfl, by simp, by simp, by simp, by simp, fun h => by simp at h⟩
  · have hlm : len ≤ m := by rw [hmm]; split <;> omega
    have each : ∀ i, i < len → ∃ r : Cl, r.Fits ∧ Sl w r.A (r.list.map (Value.int .i64)) ∧ ∀ j v, r.cells[j]? = some v → w.cell? (a.add (i * 13 + j)) = some v := by
      intro i hi
      obtain ⟨cs', h1, h2⟩ := hx i (by omega)
      rw [cellsOf32] at h1
      obtain ⟨r, hr, hs, rfl⟩ := open_call h2
      obtain ⟨_, _, hcell⟩ := World.cells?_some h1
      refine ⟨r, hr, hs, fun j v hj => ?_⟩
      have hj1 : j < 13 := by
        have := (List.getElem?_eq_some_iff.1 hj).1
        unfold Cl.cells at this
        simpa using this
      have e := hcell j hj1
      rw [Go.Deep.add_add] at e
      rw [e, hj]
    obtain ⟨q, hq⟩ := Go.Deep.choose_lt each
    have hlen : ((List.range len).map q).length = len := by simp
    have hget : ∀ i r, ((List.range len).map q)[i]? = some r → i < len ∧ r = q i := fun i r hr => by
      have hi : i < len := by have := (List.getElem?_eq_some_iff.1 hr).1; rw [hlen] at this; exact this
      rw [List.getElem?_map, List.getElem?_range hi] at hr
      exact ⟨hi, (Option.some.inj hr).symm⟩
    refine ⟨some a, cap, (List.range len).map q, by rw [hlen], by rw [hlen]; omega, by unfold maxLen at hm; omega, ?_, ?_, fun hp => ?_⟩
    · intro r hr
      obtain ⟨i, hi, rfl⟩ := List.mem_map.1 hr
      exact (hq i (List.mem_range.1 hi)).1
    · intro r hr
      obtain ⟨i, hi, rfl⟩ := List.mem_map.1 hr
      exact (hq i (List.mem_range.1 hi)).2.1
    · rw [hlen] at hp
      obtain ⟨b, off, spot⟩ := a
      have hspot : spot = none := by simpa [Addr.add] using World.cell?_spot ((hq 0 hp).2.2 0 _ rfl)
      subst hspot
      refine ⟨b, off, rfl, fun i r hr j v hj => ?_⟩
      obtain ⟨hi, rfl⟩ := hget i r hr
      have e := (hq i hi).2.2 j v hj
      rw [addr_add] at e
      rw [Nat.add_assoc]
      exact e
end
end Go.Proofs.YtpdfmfkoopdfgaaGreatDoor.Hs
