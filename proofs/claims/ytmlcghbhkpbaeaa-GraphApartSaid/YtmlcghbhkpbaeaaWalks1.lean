/- Rows of graphs in memory; how two of them lie; a row's place. -/
import Derived.Test.YtmlcghbhkpbaeaaRows
import Derived.WalkKit
import Derived.ProofKit
import Derived.OpenShut
import Derived.Below
import Derived.Lib.Hide
import Derived.WalkLawsBesides
import Derived.Deep.RegionHeld3
import Derived.Deep.QuietTactic
import Derived.BigQuiet
namespace Go.Proofs.Ytmlcghbhkpbaeaa
open Go.RowKit

/-- A row of a graph. -/
structure Arc where
  u : Int
  v : Int
  w : Int
/-- Its numbers are numbers. -/
def Arc.Fine (a : Arc) : Prop := -9223372036854775808 ≤ a.u ∧ a.u ≤ 9223372036854775807 ∧ -9223372036854775808 ≤ a.v ∧ a.v ≤ 9223372036854775807 ∧ 0 ≤ a.w ∧ a.w < 18446744073709551616
def Arc.val (a : Arc) : Value := .agg #[.int .i64 a.u, .int .i64 a.v, .int .u64 a.w]
/-- A slice of rows that lies in memory. -/
def Arcs (w : World) (A : Option Addr) (l : List Arc) : Prop :=
  l.length ≤ 9223372036854775807 ∧ (∀ a ∈ l, a.Fine) ∧ (0 < l.length → ∃ b off, A = some ⟨b, off, none⟩ ∧ ∀ i a, l[i]? = some a →
    w.cell? ⟨b, off + i * 3, none⟩ = some (.int .i64 a.u) ∧ w.cell? ⟨b, off + i * 3 + 1, none⟩ = some (.int .i64 a.v) ∧ w.cell? ⟨b, off + i * 3 + 2, none⟩ = some (.int .u64 a.w))
theorem Arcs.below {B : Nat} {w w' : World} {A : Option Addr} {l : List Arc} (h : Arcs w A l) (hb : Below B w w') (hB : w.heap.size ≤ B) : Arcs w' A l := by
  obtain ⟨h1, h2, h3⟩ := h
  refine ⟨h1, h2, fun hp => ?_⟩
  obtain ⟨b, off, hA, hc⟩ := h3 hp
  refine ⟨b, off, hA, fun i a hi => ?_⟩
  obtain ⟨c1, c2, c3⟩ := hc i a hi
  have hlt : b < B := Nat.lt_of_lt_of_le (World.block_lt_of_cell? _ _ c1) hB
  exact ⟨(hb.cell (p := ⟨b, off + i * 3, none⟩) hlt).trans c1, (hb.cell (p := ⟨b, off + i * 3 + 1, none⟩) hlt).trans c2, (hb.cell (p := ⟨b, off + i * 3 + 2, none⟩) hlt).trans c3⟩

/-- How two numbers lie. -/
def cmpI (x y : Int) : Int := if x < y then -1 else if y < x then 1 else 0
theorem isNaN_any (x : Int) (w : World) : Calls Try.prog 44 #[.int .i64 x] w fun e w' => e = .returned (.bool false) ∧ w = w' := by
  go_enter Try.func44, Try.ntmps44
  go_wp2
  go_ret
  exact ⟨rfl, rfl⟩
theorem compare_any (x y : Int) (w : World) : Calls Try.prog 39 #[.int .i64 x, .int .i64 y] w fun e w' => e = .returned (.int .i64 (cmpI x y)) ∧ w = w' := by
  rcases Int.lt_trichotomy x y with h | h | h
  · have h1 : cmpI x y = -1 := if_pos h
    rw [h1]
    clear h1
    go_enter Try.func39, Try.ntmps39
    go_wp2_with (first
      | (go_at_call 44; ((with_reducible refine (isNaN_any x _).mono ?_); rintro e w' ⟨rfl, rfl⟩))
      | (go_at_call 44; ((with_reducible refine (isNaN_any y _).mono ?_); rintro e w' ⟨rfl, rfl⟩)))
    go_ret
    exact ⟨rfl, rfl⟩
  · subst h
    have h1 : cmpI x x = 0 := by unfold cmpI; simp
    rw [h1]
    clear h1
    go_enter Try.func39, Try.ntmps39
    go_wp2_with (first
      | (go_at_call 44; ((with_reducible refine (isNaN_any x _).mono ?_); rintro e w' ⟨rfl, rfl⟩)))
    go_ret
    exact ⟨rfl, rfl⟩
  · have h1 : cmpI x y = 1 := by unfold cmpI; rw [if_neg (by omega), if_pos h]
    rw [h1]
    clear h1
    go_enter Try.func39, Try.ntmps39
    go_wp2_with (first
      | (go_at_call 44; ((with_reducible refine (isNaN_any x _).mono ?_); rintro e w' ⟨rfl, rfl⟩))
      | (go_at_call 44; ((with_reducible refine (isNaN_any y _).mono ?_); rintro e w' ⟨rfl, rfl⟩)))
    go_ret
    exact ⟨rfl, rfl⟩
def orI (x y : Int) : Int := if x = 0 then y else x
theorem or_any (b : Nat) (x y : Int) (w : World) (h0 : w.cell? ⟨b, 0, none⟩ = some (.int .i64 x)) (h1 : w.cell? ⟨b, 1, none⟩ = some (.int .i64 y)) :
    Calls Try.prog 38 #[.slice (some ⟨b, 0, none⟩) 2 2] w fun e w' => e = .returned (.int .i64 (orI x y)) ∧ w = w' := by
  go_enter Try.func38, Try.ntmps38
  go_wp2
  go_loop [8] (fun i => ∃ k : Nat, k ≤ 2 ∧ i = .int .i64 k ∧ (0 < k → x = 0) ∧ (1 < k → y = 0)) (fun i => 2 - (intOf i).toNat)
  case atStart => exact ⟨0, by omega, rfl, fun h => by omega, fun h => by omega⟩
  case round =>
    obtain ⟨k, hk, rfl, hx, hy⟩ := hrel
    have HX := Lib.hid hx
    have HY := Lib.hid hy
    clear hx hy
    have : k = 0 ∨ k = 1 ∨ k = 2 := by omega
    rcases this with rfl | rfl | rfl
    · cases hb : (x != 0)
      · have hx0 := Lib.hid (show x = 0 from by simpa using hb)
        go_wp2
        go_round
        case rel => exact ⟨1, by omega, by go_num, fun _ => hx0.out, fun h => by omega⟩
        case measure => simp [intOf]
      · have hx0 := Lib.hid (show x ≠ 0 from by simpa using hb)
        have ho := Lib.hid (show orI x y = x from if_neg hx0.out)
        go_wp2
        go_ret
        exact ⟨by rw [ho.out]; rfl, rfl⟩
    · have hx0 := Lib.hid (HX.out (by omega))
      have ho := Lib.hid (show orI x y = y from if_pos hx0.out)
      cases hb : (y != 0)
      · have hy0 := Lib.hid (show y = 0 from by simpa using hb)
        go_wp2
        go_round
        case rel => exact ⟨2, by omega, by go_num, fun _ => hx0.out, fun _ => hy0.out⟩
        case measure => simp [intOf]
      · go_wp2
        go_ret
        exact ⟨by rw [ho.out]; rfl, rfl⟩
    · have ho := Lib.hid (show orI x y = 0 from by rw [show orI x y = y from if_pos (HX.out (by omega))]; exact HY.out (by omega))
      go_wp2
      go_ret
      exact ⟨by rw [ho.out]; rfl, rfl⟩

/-- Two rows in their boxes. -/
def Bx (a b : Arc) (w w' : World) : Prop :=
  w'.cell? ⟨w.heap.size, 0, none⟩ = some (.int .i64 a.u) ∧ w'.cell? ⟨w.heap.size, 1, none⟩ = some (.int .i64 a.v) ∧ w'.cell? ⟨w.heap.size + 1, 0, none⟩ = some (.int .i64 b.u) ∧ w'.cell? ⟨w.heap.size + 1, 1, none⟩ = some (.int .i64 b.v) ∧ Below w.heap.size w w'
theorem Bx.start (a b : Arc) (w : World) : Bx a b w ((w.alloc (.cells #[.int .i64 a.u, .int .i64 a.v, .int .u64 a.w] 41)).alloc (.cells #[.int .i64 b.u, .int .i64 b.v, .int .u64 b.w] 41)) := by
  have h2 : ∀ (k : Nat) (c : Value), (w.alloc (.cells #[.int .i64 a.u, .int .i64 a.v, .int .u64 a.w] 41)).cell? ⟨w.heap.size, k, none⟩ = some c → ((w.alloc (.cells #[.int .i64 a.u, .int .i64 a.v, .int .u64 a.w] 41)).alloc (.cells #[.int .i64 b.u, .int .i64 b.v, .int .u64 b.w] 41)).cell? ⟨w.heap.size, k, none⟩ = some c := fun k c h =>
    (World.cell?_alloc_lt _ _ _ (by simp)).trans h
  have h3 : ∀ k : Nat, ((w.alloc (.cells #[.int .i64 a.u, .int .i64 a.v, .int .u64 a.w] 41)).alloc (.cells #[.int .i64 b.u, .int .i64 b.v, .int .u64 b.w] 41)).cell? ⟨w.heap.size + 1, k, none⟩ = (#[Value.int .i64 b.u, .int .i64 b.v, .int .u64 b.w] : Array Value)[k]? := fun k => by
    rw [show w.heap.size + 1 = (w.alloc (.cells #[.int .i64 a.u, .int .i64 a.v, .int .u64 a.w] 41)).heap.size from by simp, World.cell?_alloc_new]
  exact ⟨h2 0 _ (by rw [World.cell?_alloc_new]; rfl), h2 1 _ (by rw [World.cell?_alloc_new]; rfl), by rw [h3]; rfl, by rw [h3]; rfl, ((Below.refl _ w).alloc (Nat.le_refl _) _).alloc (by simp) _⟩
theorem Bx.later {a b : Arc} {w w' w'' : World} (h : Bx a b w w') (hb : Below w'.heap.size w' w'') : Bx a b w w'' := by
  obtain ⟨h1, h2, h3, h4, h5⟩ := h
  have l1 := World.block_lt_of_cell? _ _ h1
  have l3 := World.block_lt_of_cell? _ _ h3
  exact ⟨(hb.cell (p := ⟨w.heap.size, 0, none⟩) l1).trans h1, (hb.cell (p := ⟨w.heap.size, 1, none⟩) l1).trans h2, (hb.cell (p := ⟨w.heap.size + 1, 0, none⟩) l3).trans h3, (hb.cell (p := ⟨w.heap.size + 1, 1, none⟩) l3).trans h4, h5.trans (hb.mono h5.size)⟩
theorem Bx.alloc {a b : Arc} {w w' : World} (h : Bx a b w w') (o : Obj) : Bx a b w (w'.alloc o) := h.later ((Below.refl _ _).alloc (Nat.le_refl _) o)
theorem Bx.drew {a b : Arc} {w w' : World} (h : Bx a b w w') : Bx a b w w'.drew := h.later (Below.refl _ _).drew
/-- How two rows lie. -/
def ordI (a b : Arc) : Int := orI (cmpI a.u b.u) (cmpI a.v b.v)
theorem or_at (x y : Int) (w : World) : Calls Try.prog 38 #[.slice (some ⟨w.heap.size, 0, none⟩) 2 2] (w.alloc (.cells #[.int .i64 x, .int .i64 y] 3)) fun e w' => e = .returned (.int .i64 (orI x y)) ∧ w.alloc (.cells #[.int .i64 x, .int .i64 y] 3) = w' :=
  or_any w.heap.size x y _ (by rw [World.cell?_alloc_new]; rfl) (by rw [World.cell?_alloc_new]; rfl)
end Go.Proofs.Ytmlcghbhkpbaeaa
