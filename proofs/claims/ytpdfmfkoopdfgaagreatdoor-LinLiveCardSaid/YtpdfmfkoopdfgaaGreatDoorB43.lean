/- LOpen. -/
import Derived.Test.YtpdfmfkoopdfgaaGreatDoorB41
import Derived.Test.YtpdfmfkoopdfgaaGreatDoorB42
import Derived.Test.YtpdfmfkoopdfgaaGreatDoorB15
import Derived.Test.YtpdfmfkoopdfgaaGreatDoorB09
import Derived.Lib.LaidTab
import Derived.Lib.ItoaNum
set_option linter.unusedVariables false
set_option linter.unusedSimpArgs false
namespace Go.Proofs.YtpdfmfkoopdfgaaGreatDoor
set_option maxRecDepth 100000
open Go.RowKit Go.ChangeShapes Go.WideShapes Aid Gr Hs

theorem cells5 : Tryz.prog.cellsOf 5 = 1 := by kernel_rfl
section
variable {H : Type} {enc : TypeId × Value → H} {w : World} {base : Nat} {spare : Nat → Bool} {held : Bool}
/-- An operation's four cells. -/
theorem open_op {n : Nat} {cs : List Value} {x : DataW H × List MemPlace} (h : DataW.trod enc Tryz.prog w base spare held n 38 cs = some x) : ∃ o : Gr.Op, o.Fine ∧ cs = [.int .i64 o.k, .int .i64 o.u, .int .i64 o.v, .int .u64 o.w] := by
  obtain ⟨xs, k, rfl, _, hlen, hxl, hf⟩ := DataW.trod_struct Tryz.underlying38 h
  rw [Hs.cellsOf30] at hlen
  match cs, hlen, xs, hxl with
  | [c0, c1, c2, c3], _, [y0, y1, y2, y3], _ =>
    have g0 := hf 0 _ rfl
    have g1 := hf 1 _ rfl
    have g2 := hf 2 _ rfl
    have g3 := hf 3 _ rfl
    simp [Gr.cellsOf3, Hs.cellsOf25] at g0 g1 g2 g3
    obtain ⟨u0, e0, _, w0⟩ := DataW.trod_int Tryz.underlying3 g0
    obtain ⟨u1, e1, _, w1⟩ := DataW.trod_int Tryz.underlying3 g1
    obtain ⟨u2, e2, _, w2⟩ := DataW.trod_int Tryz.underlying3 g2
    obtain ⟨u3, e3, _, w3⟩ := DataW.trod_int Tryz.underlying36 g3
    simp at e0 e1 e2 e3
    subst e0 e1 e2 e3
    have b0 := bounds_i64 w0
    have b1 := bounds_i64 w1
    have b2 := bounds_i64 w2
    have b3 := bounds_u64 w3
    exact ⟨⟨u0, u1, u2, u3⟩, ⟨by simp only; omega, by simp only; omega, by simp only; omega, by simp only; omega, by simp only; omega, by simp only; omega, by simp only; omega, by simp only; omega⟩, rfl⟩
end
theorem gPowT : Tryz.prog.globalNamed "internal/strconv.uint64pow10" = some 0 := by kernel_rfl
theorem tab_third {W : World} {zs : List Int} (hz : zs = Lib.pow10Tab) {n1 n2 : String} {d1 d2 : DataW Unit} {rest : List (String × DataW Unit)} (h : laidMet Tryz.prog ((n1, d1) :: (n2, d2) :: ("internal/strconv.uint64pow10", Lib.tabData .u64 zs) :: rest) W) : Lib.TabIs Tryz.prog W "internal/strconv.uint64pow10" .u64 Lib.pow10Tab := by
  subst hz
  obtain ⟨ps, ⟨_, _, _, _, _, _, _, _, _, _, ⟨_, _, _, _, _, _, _, _, _, _, ⟨g', t', cs, fuel, p, q, hg', ht', hvar, hd, _, _⟩, _⟩, _⟩, _⟩ := h
  obtain rfl := Option.some.inj (gPowT.symm.trans hg')
  obtain rfl := Option.some.inj ((show (Tryz.prog.globals[0]?).map (·.type) = some 196 by kernel_rfl).symm.trans ht')
  unfold Lib.TabIs
  rw [hvar, ← Lib.cells_of_tab Tryz.underlying196 Tryz.underlying36 (by kernel_rfl) (by kernel_rfl) hd]
end Go.Proofs.YtpdfmfkoopdfgaaGreatDoor
