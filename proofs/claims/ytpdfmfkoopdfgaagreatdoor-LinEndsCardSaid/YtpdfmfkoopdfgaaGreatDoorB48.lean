/- LOpen. -/
import Derived.Test.YtpdfmfkoopdfgaaGreatDoorB46
import Derived.Test.YtpdfmfkoopdfgaaGreatDoorB47
import Derived.Test.YtpdfmfkoopdfgaaGreatDoorB15
import Derived.Test.YtpdfmfkoopdfgaaGreatDoorB09
import Derived.Lib.LaidTab
import Derived.Lib.ItoaNum
set_option linter.unusedVariables false
namespace Go.Proofs.YtpdfmfkoopdfgaaGreatDoor
set_option maxRecDepth 100000
open Go.RowKit Go.ChangeShapes Go.WideShapes Aid Gr Hs

theorem cells56 : Tryz.prog.cellsOf 56 = 5 := by kernel_rfl
theorem cells5 : Tryz.prog.cellsOf 5 = 1 := by kernel_rfl
section
variable {H : Type} {enc : TypeId × Value → H} {w : World} {base : Nat} {spare : Nat → Bool} {held : Bool}
theorem list5 {α : Type} {l : List α} (h : l.length = 5) : ∃ a b c d e, l = [a, b, c, d, e] := by
  match l, h with
  | [a, b, c, d, e], _ => exact ⟨a, b, c, d, e, rfl⟩
theorem open_either {r : Reach} {b0 : Nat} {v : Value} {d : DataW H} {p : List MemPlace} (hv : Value.okWide Tryz.prog w r b0 56 v) (h : DataW.Trod enc Tryz.prog w base spare held 56 v d p) :
    ∃ u a b c e : Int, v = .agg #[.int .i64 u, .int .u8 a, .int .u8 b, .int .u8 c, .int .u8 e] ∧ (-9223372036854775808 ≤ u ∧ u ≤ 9223372036854775807) ∧ (0 ≤ a ∧ a < 256) ∧ (0 ≤ b ∧ b < 256) ∧ (0 ≤ c ∧ c < 256) ∧ (0 ≤ e ∧ e < 256) := by
  obtain ⟨cs, rfl, hsz⟩ := okWide_struct Tryz.underlying56 hv
  obtain ⟨n, hf⟩ := h
  obtain ⟨xs, k, rfl, _, hlen, hxl, hg⟩ := DataW.trod_struct Tryz.underlying56 hf
  rw [cells56] at hsz
  obtain ⟨c0, c1, c2, c3, c4, hcs⟩ := list5 (l := cs.toList) (by simpa using hsz)
  have hcs' : cs = #[c0, c1, c2, c3, c4] := by rw [← Array.toArray_toList (xs := cs), hcs]
  subst hcs'
  obtain ⟨y0, y1, y2, y3, y4, rfl⟩ := list5 hxl
  have g0 := hg 0 _ rfl
  have g1 := hg 1 _ rfl
  have g2 := hg 2 _ rfl
  have g3 := hg 3 _ rfl
  have g4 := hg 4 _ rfl
  simp [Gr.cellsOf3, cells5, Value.cells] at g0 g1 g2 g3 g4
  obtain ⟨u, e0, _, w0⟩ := DataW.trod_int Tryz.underlying3 g0
  obtain ⟨a1, e1, _, w1⟩ := DataW.trod_int Tryz.underlying5 g1
  obtain ⟨a2, e2, _, w2⟩ := DataW.trod_int Tryz.underlying5 g2
  obtain ⟨a3, e3, _, w3⟩ := DataW.trod_int Tryz.underlying5 g3
  obtain ⟨a4, e4, _, w4⟩ := DataW.trod_int Tryz.underlying5 g4
  simp at e0 e1 e2 e3 e4
  subst e0 e1 e2 e3 e4
  have b0 := bounds_i64 w0
  have b1 := bounds_u8 w1
  have b2 := bounds_u8 w2
  have b3 := bounds_u8 w3
  have b4 := bounds_u8 w4
  exact ⟨u, a1, a2, a3, a4, rfl, by omega, by omega, by omega, by omega, by omega⟩
end
theorem gPowT : Tryz.prog.globalNamed "internal/strconv.uint64pow10" = some 0 := by kernel_rfl
theorem tab_third {W : World} {zs : List Int} (hz : zs = Lib.pow10Tab) {n1 n2 : String} {d1 d2 : DataW Unit} {rest : List (String × DataW Unit)} (h : laidMet Tryz.prog ((n1, d1) :: (n2, d2) :: ("internal/strconv.uint64pow10", Lib.tabData .u64 zs) :: rest) W) : Lib.TabIs Tryz.prog W "internal/strconv.uint64pow10" .u64 Lib.pow10Tab := by
  subst hz
  obtain ⟨ps, ⟨_, _, _, _, _, _, _, _, _, _, ⟨_, _, _, _, _, _, _, _, _, _, ⟨g', t', cs, fuel, p, q, hg', ht', hvar, hd, _, _⟩, _⟩, _⟩, _⟩ := h
  obtain rfl := Option.some.inj (gPowT.symm.trans hg')
  obtain rfl := Option.some.inj ((show (Tryz.prog.globals[0]?).map (·.type) = some 196 by kernel_rfl).symm.trans ht')
  unfold Lib.TabIs
  rw [hvar, ← Lib.cells_of_tab Tryz.underlying196 Tryz.underlying36 (by kernel_rfl) (by kernel_rfl) hd]
end Go.Proofs.YtpdfmfkoopdfgaaGreatDoor
