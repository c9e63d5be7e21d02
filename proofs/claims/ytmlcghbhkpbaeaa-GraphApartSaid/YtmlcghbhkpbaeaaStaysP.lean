/- Words for the walks of the laws that have an operation. -/
import Derived.Test.YtmlcghbhkpbaeaaSameQ
import Derived.Test.YtmlcghbhkpbaeaaOwn
namespace Go.Proofs.Ytmlcghbhkpbaeaa
open Go.RowKit Aid

def OpC (w : World) (b : Nat) (k u v x : Int) : Prop :=
  w.cell? ⟨b, 0, none⟩ = some (.int .i64 k) ∧ w.cell? ⟨b, 1, none⟩ = some (.int .i64 u) ∧ w.cell? ⟨b, 2, none⟩ = some (.int .i64 v) ∧ w.cell? ⟨b, 3, none⟩ = some (.int .u64 x)
theorem OpC.below {B : Nat} {w w' : World} {b : Nat} {k u v x : Int} (h : OpC w b k u v x) (hb : Below B w w') (hB : w.heap.size ≤ B) : OpC w' b k u v x := by
  obtain ⟨h1, h2, h3, h4⟩ := h
  have hlt := Nat.lt_of_lt_of_le (World.block_lt_of_cell? w _ h1) hB
  exact ⟨(hb.cell (p := ⟨b, 0, none⟩) hlt).trans h1, (hb.cell (p := ⟨b, 1, none⟩) hlt).trans h2, (hb.cell (p := ⟨b, 2, none⟩) hlt).trans h3, (hb.cell (p := ⟨b, 3, none⟩) hlt).trans h4⟩
theorem opc_new (w : World) (k u v x : Int) : OpC (w.alloc (.cells #[.int .i64 k, .int .i64 u, .int .i64 v, .int .u64 x] 25)) w.heap.size k u v x := by
  refine ⟨?_, ?_, ?_, ?_⟩ <;> (rw [World.cell?_alloc_new]; rfl)
theorem outs_self (a : Ans) : outsB a a = true := decide_eq_true rfl
theorem quiet_same (W : World) {A B : Option Addr} (c d : Nat) {n m : Nat} {l k : List Arc} {b : Bool} (hn : n = l.length) (hm : m = k.length) (hl : Arcs W A l) (hk : Arcs W B k) (h40 : l.length ≤ 999) (hb : sameB l k = b) (q : Nat) :
    Calls Try.prog 11 #[.slice A n c, .slice B m d] (W.drewN q) fun e w' => e = .returned (.bool b) ∧ ∃ m, w' = (W.drewN q).drewN m := by
  subst hb
  exact refSame_quiet A B c d n m l k _ hn hm (hl.below (below_drewN (Below.refl _ _) q) (Nat.le_refl _)) (hk.below (below_drewN (Below.refl _ _) q) (Nat.le_refl _)) (by omega)
end Go.Proofs.Ytmlcghbhkpbaeaa
