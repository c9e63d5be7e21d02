/- Calls of a history, in memory. General words. -/
import Derived.Test.YthepgdfhdkhhbaaRows
import Derived.Test.YthepgdfhdkhhbaaAid
import Derived.WalkKit
import Derived.Outline
import Derived.OwnWalk
import Derived.Below
import Derived.OpenShut
import Derived.Lib.Hide
import Derived.WalkLawsBesides
import Derived.ProofKit
import Derived.RegionTactic
import Derived.Deep.RegionLaw
import Derived.Deep.RegionWith
import Derived.Deep.RegionHeld3
import Derived.Lib.SliceRun
namespace Go.Proofs.Ythepgdfhdkhhbaa
open Go.RowKit Aid

/-- A call's numbers. -/
structure Cl where
  me : Int
  k : Int
  u : Int
  v : Int
  x : Int
  era : Int
  fr : Int
  to : Int
  err : Int
  is : Bool
  n : Int
  w : Int
  list : List Int
  A : Option Addr
  cap : Nat
/-- A call; its list lies at A. -/
def Cl.val (a : Cl) : Value := .agg #[.int .i64 a.me, .int .i64 a.k, .int .i64 a.u, .int .i64 a.v, .int .u64 a.x, .int .i64 a.era, .int .i64 a.fr, .int .i64 a.to, .int .i64 a.err, .bool a.is, .int .i64 a.n, .int .u64 a.w, .slice a.A a.list.length a.cap]
theorem zero32 : (Try.prog.info? 32).map (fun i => (i.zero, i.size, i.bytes)) = some (some (.agg #[.int .i64 0, .int .i64 0, .int .i64 0, .int .i64 0, .int .u64 0, .int .i64 0, .int .i64 0, .int .i64 0, .int .i64 0, .bool false, .int .i64 0, .int .u64 0, .slice none 0 0]), 13, 120) := by kernel_rfl
def Cl.cells (a : Cl) : List Value := [.int .i64 a.me, .int .i64 a.k, .int .i64 a.u, .int .i64 a.v, .int .u64 a.x, .int .i64 a.era, .int .i64 a.fr, .int .i64 a.to, .int .i64 a.err, .bool a.is, .int .i64 a.n, .int .u64 a.w, .slice a.A a.list.length a.cap]
/-- A slice of calls that lies in memory, their lists, too. -/
def Cls (w : World) (A : Option Addr) (l : List Cl) : Prop :=
  (∀ a ∈ l, Sl w a.A (a.list.map (Value.int .i64))) ∧ (0 < l.length → ∃ b off, A = some ⟨b, off, none⟩ ∧ ∀ i a, l[i]? = some a → w.rangeAt b (off + i * 13) a.cells)
theorem Cls.below {B : Nat} {w w' : World} {A : Option Addr} {l : List Cl} (h : Cls w A l) (hb : Below B w w') (hB : w.heap.size ≤ B) : Cls w' A l := by
  obtain ⟨h1, h2⟩ := h
  refine ⟨fun a ha => (h1 a ha).below hb hB, fun hp => ?_⟩
  obtain ⟨b, off, hA, hc⟩ := h2 hp
  refine ⟨b, off, hA, fun i a hi j v hj => ?_⟩
  have := hc i a hi j v hj
  exact (hb.cell (p := ⟨b, off + i * 13 + j, none⟩) (Nat.lt_of_lt_of_le (World.block_lt_of_cell? _ _ this) hB)).trans this
/-- One call's cells. -/
def At (w : World) (b o : Nat) (a : Cl) : Prop :=
  w.cell? ⟨b, o, none⟩ = some (.int .i64 a.me) ∧ w.cell? ⟨b, o + 1, none⟩ = some (.int .i64 a.k) ∧ w.cell? ⟨b, o + 2, none⟩ = some (.int .i64 a.u) ∧ w.cell? ⟨b, o + 3, none⟩ = some (.int .i64 a.v) ∧ w.cell? ⟨b, o + 4, none⟩ = some (.int .u64 a.x) ∧ w.cell? ⟨b, o + 5, none⟩ = some (.int .i64 a.era) ∧ w.cell? ⟨b, o + 6, none⟩ = some (.int .i64 a.fr) ∧ w.cell? ⟨b, o + 7, none⟩ = some (.int .i64 a.to) ∧ w.cell? ⟨b, o + 8, none⟩ = some (.int .i64 a.err) ∧ w.cell? ⟨b, o + 9, none⟩ = some (.bool a.is) ∧ w.cell? ⟨b, o + 10, none⟩ = some (.int .i64 a.n) ∧ w.cell? ⟨b, o + 11, none⟩ = some (.int .u64 a.w) ∧ w.cell? ⟨b, o + 12, none⟩ = some (.slice a.A a.list.length a.cap)
theorem at_range {w : World} {b o : Nat} {a : Cl} (h : w.rangeAt b o a.cells) : At w b o a :=
  ⟨h 0 _ rfl, h 1 _ rfl, h 2 _ rfl, h 3 _ rfl, h 4 _ rfl, h 5 _ rfl, h 6 _ rfl, h 7 _ rfl, h 8 _ rfl, h 9 _ rfl, h 10 _ rfl, h 11 _ rfl, h 12 _ rfl⟩
theorem Cls.get {w : World} {A : Option Addr} {l : List Cl} (h : Cls w A l) {i : Nat} {a : Cl} (hi : l[i]? = some a) : ∃ b off, A = some ⟨b, off, none⟩ ∧ At w b (off + i * 13) a := by
  obtain ⟨b, off, hA, hc⟩ := h.2 (by have := (List.getElem?_eq_some_iff.1 hi).1; omega)
  exact ⟨b, off, hA, at_range (hc i a hi)⟩
theorem At.below {B : Nat} {w w' : World} {b o : Nat} {a : Cl} (h : At w b o a) (hb : Below B w w') (hB : w.heap.size ≤ B) : At w' b o a := by
  obtain ⟨h0, h1, h2, h3, h4, h5, h6, h7, h8, h9, h10, h11, h12⟩ := h
  have l0 := Nat.lt_of_lt_of_le (World.block_lt_of_cell? w _ h0) hB
  have t : ∀ {j : Nat} {v : Value}, w.cell? ⟨b, j, none⟩ = some v → w'.cell? ⟨b, j, none⟩ = some v := fun {j} {_} h => (hb.cell (p := ⟨b, j, none⟩) l0).trans h
  exact ⟨t h0, t h1, t h2, t h3, t h4, t h5, t h6, t h7, t h8, t h9, t h10, t h11, t h12⟩
/-- The box of a call. -/
abbrev bx (a : Cl) : Obj := .cells #[.int .i64 a.me, .int .i64 a.k, .int .i64 a.u, .int .i64 a.v, .int .u64 a.x, .int .i64 a.era, .int .i64 a.fr, .int .i64 a.to, .int .i64 a.err, .bool a.is, .int .i64 a.n, .int .u64 a.w, .slice a.A a.list.length a.cap] 32
theorem at_box (w : World) (a : Cl) : At (w.alloc (bx a)) w.heap.size 0 a := by
  unfold bx
  refine ⟨?_, ?_, ?_, ?_, ?_, ?_, ?_, ?_, ?_, ?_, ?_, ?_, ?_⟩ <;> (rw [World.cell?_alloc_new]; rfl)
theorem below_drewN {B : Nat} {w W : World} (h : Below B w W) : ∀ n, Below B w (W.drewN n)
  | 0 => h
  | n + 1 => (below_drewN h n).drew
end Go.Proofs.Ythepgdfhdkhhbaa
