/- GWalks1, GWalks2. -/
import Derived.Test.YtpdfmfkoopdfgaaGreatDoorRows
import Derived.WalkKit
import Derived.ProofKit
import Derived.OpenShut
import Derived.Below
import Derived.Lib.Hide
import Derived.WalkLawsBesides
import Derived.Deep.RegionHeld3
import Derived.Deep.QuietTactic
import Derived.BigQuiet
set_option linter.unusedVariables false
set_option linter.unusedSimpArgs false
section
namespace Go.Proofs.YtpdfmfkoopdfgaaGreatDoor.Gr
set_option maxRecDepth 100000
open Go.RowKit

/-- A row of a graph. -/
structure Arc where
  u : Int
  v : Int
  w : Int
/-- Its numbers are numbers. -/
def Arc.Fine (a : Arc) : Prop := -9223372036854775808 ≤ a.u ∧ a.u ≤ 9223372036854775807 ∧ -9223372036854775808 ≤ a.v ∧ a.v ≤ 9223372036854775807 ∧ 0 ≤ a.w ∧ a.w < 18446744073709551616
def Arc.val (a : Arc) : Value := .agg #[.int .i64 a.u, .int .i64 a.v, .int .u64 a.w]
/-- A slice of rows that lies in memory. -/
def Arcs (w : World) (A : Option Addr) (l : List Arc) : Prop :=
  l.length ≤ 9223372036854775807 ∧ (∀ a ∈ l, a.Fine) ∧ (0 < l.length → ∃ b off, A = some ⟨b, off, none⟩ ∧ ∀ i a, l[i]? = some a →
    w.cell? ⟨b, off + i * 3, none⟩ = some (.int .i64 a.u) ∧ w.cell? ⟨b, off + i * 3 + 1, none⟩ = some (.int .i64 a.v) ∧ w.cell? ⟨b, off + i * 3 + 2, none⟩ = some (.int .u64 a.w))
theorem Arcs.below {B : Nat} {w w' : World} {A : Option Addr} {l : List Arc} (h : Arcs w A l) (hb : Below B w w') (hB : w.heap.size ≤ B) : Arcs w' A l := by
  obtain ⟨h1, h2, h3⟩ := h
  refine ⟨h1, h2, fun hp => ?_⟩
  obtain ⟨b, off, hA, hc⟩ := h3 hp
  refine ⟨b, off, hA, fun i a hi => ?_⟩
  obtain ⟨c1, c2, c3⟩ := hc i a hi
  have hlt : b < B := Nat.lt_of_lt_of_le (World.block_lt_of_cell? _ _ c1) hB
  exact ⟨(hb.cell (p := ⟨b, off + i * 3, none⟩) hlt).trans c1, (hb.cell (p := ⟨b, off + i * 3 + 1, none⟩) hlt).trans c2, (hb.cell (p := ⟨b, off + i * 3 + 2, none⟩) hlt).trans c3⟩

/-- How two numbers lie. -/
def cmpI (x y : Int) : Int := if x < y then -1 else if y < x then 1 else 0
theorem isNaN_any (x : Int) (w : World) : Calls Tryz.prog 78 #[.int .i64 x] w fun e w' => e = .returned (.bool false) ∧ w = w' := by
  go_enter Tryz.func78, Tryz.ntmps78
  go_wp2
  go_ret
  exact ⟨rfl, rfl⟩
theorem compare_any (x y : Int) (w : World) : Calls Tryz.prog 42 #[.int .i64 x, .int .i64 y] w fun e w' => e = .returned (.int .i64 (cmpI x y)) ∧ w = w' := by
  rcases Int.lt_trichotomy x y with h | h | h
  · have h1 : cmpI x y = -1 := if_pos h
    rw [h1]
    clear h1
    go_enter Tryz.func42, Tryz.ntmps42
    go_wp2_with (first
      | (go_at_call 78; ((with_reducible refine (isNaN_any x _).mono ?_); rintro e w' ⟨rfl, rfl⟩))
      | (go_at_call 78; ((with_reducible refine (isNaN_any y _).mono ?_); rintro e w' ⟨rfl, rfl⟩)))
    go_ret
    exact ⟨rfl, rfl⟩
  · subst h
    have h1 : cmpI x x = 0 := by unfold cmpI; simp
    rw [h1]
    clear h1
    go_enter Tryz.func42, Tryz.ntmps42
    go_wp2_with (first
      | (go_at_call 78; ((with_reducible refine (isNaN_any x _).mono ?_); rintro e w' ⟨rfl, rfl⟩)))
    go_ret
    exact ⟨rfl, rfl⟩
  · have h1 : cmpI x y = 1 := by unfold cmpI; rw [if_neg (by omega), if_pos h]
    rw [h1]
    clear h1
    go_enter Tryz.func42, Tryz.ntmps42
    go_wp2_with (first
      | (go_at_call 78; ((with_reducible refine (isNaN_any x _).mono ?_); rintro e w' ⟨rfl, rfl⟩))
      | (go_at_call 78; ((with_reducible refine (isNaN_any y _).mono ?_); rintro e w' ⟨rfl, rfl⟩)))
    go_ret
    exact ⟨rfl, rfl⟩
def orI (x y : Int) : Int := if x = 0 then y else x
theorem or_any (b : Nat) (x y : Int) (w : World) (h0 : w.cell? ⟨b, 0, none⟩ = some (.int .i64 x)) (h1 : w.cell? ⟨b, 1, none⟩ = some (.int .i64 y)) :
    Calls Tryz.prog 41 #[.slice (some ⟨b, 0, none⟩) 2 2] w fun e w' => e = .returned (.int .i64 (orI x y)) ∧ w = w' := by
  go_enter Tryz.func41, Tryz.ntmps41
  go_wp2
  go_loop [8] (fun i => ∃ k : Nat, k ≤ 2 ∧ i = .int .i64 k ∧ (0 < k → x = 0) ∧ (1 < k → y = 0)) (fun i => 2 - (intOf i).toNat)
  case atStart => exact ⟨0, by omega, rfl, fun h => by omega, fun h => by omega⟩
  case round =>
    obtain ⟨k, hk, rfl, hx, hy⟩ := hrel
    have HX := Lib.hid hx
    have HY := Lib.hid hy
    clear hx hy
    have : k = 0 ∨ k = 1 ∨ k = 2 := by omega
    rcases this with rfl | rfl | rfl
    · cases hb : (x != 0)
      · have hx0 := Lib.hid (show x = 0 from by simpa using hb)
        go_wp2
        go_round
        case rel => exact ⟨1, by omega, by go_num, fun _ => hx0.out, fun h => by omega⟩
        case measure => simp [intOf]
      · have hx0 := Lib.hid (show x ≠ 0 from by simpa using hb)
        have ho := Lib.hid (show orI x y = x from if_neg hx0.out)
        go_wp2
        go_ret
        exact ⟨by rw [ho.out]; rfl, rfl⟩
    · have hx0 := Lib.hid (HX.out (by omega))
      have ho := Lib.hid (show orI x y = y from if_pos hx0.out)
      cases hb : (y != 0)
      · have hy0 := Lib.hid (show y = 0 from by simpa using hb)
        go_wp2
        go_round
        case rel => exact ⟨2, by omega, by go_num, fun _ => hx0.out, fun _ => hy0.out⟩
        case measure => simp [intOf]
      · go_wp2
        go_ret
        exact ⟨by rw [ho.out]; rfl, rfl⟩
    · have ho := Lib.hid (show orI x y = 0 from by rw [show orI x y = y from if_pos (HX.out (by omega))]; exact HY.out (by omega))
      go_wp2
      go_ret
      exact ⟨by rw [ho.out]; rfl, rfl⟩

/-- Two rows in their boxes. -/
def Bx (a b : Arc) (w w' : World) : Prop :=
  w'.cell? ⟨w.heap.size, 0, none⟩ = some (.int .i64 a.u) ∧ w'.cell? ⟨w.heap.size, 1, none⟩ = some (.int .i64 a.v) ∧ w'.cell? ⟨w.heap.size + 1, 0, none⟩ = some (.int .i64 b.u) ∧ w'.cell? ⟨w.heap.size + 1, 1, none⟩ = some (.int .i64 b.v) ∧ Below w.heap.size w w'
theorem Bx.start (a b : Arc) (w : World) : Bx a b w ((w.alloc (.cells #[.int .i64 a.u, .int .i64 a.v, .int .u64 a.w] 60)).alloc (.cells #[.int .i64 b.u, .int .i64 b.v, .int .u64 b.w] 60)) := by
  have h2 : ∀ (k : Nat) (c : Value), (w.alloc (.cells #[.int .i64 a.u, .int .i64 a.v, .int .u64 a.w] 60)).cell? ⟨w.heap.size, k, none⟩ = some c → ((w.alloc (.cells #[.int .i64 a.u, .int .i64 a.v, .int .u64 a.w] 60)).alloc (.cells #[.int .i64 b.u, .int .i64 b.v, .int .u64 b.w] 60)).cell? ⟨w.heap.size, k, none⟩ = some c := fun k c h =>
    (World.cell?_alloc_lt _ _ _ (by simp)).trans h
  have h3 : ∀ k : Nat, ((w.alloc (.cells #[.int .i64 a.u, .int .i64 a.v, .int .u64 a.w] 60)).alloc (.cells #[.int .i64 b.u, .int .i64 b.v, .int .u64 b.w] 60)).cell? ⟨w.heap.size + 1, k, none⟩ = (#[Value.int .i64 b.u, .int .i64 b.v, .int .u64 b.w] : Array Value)[k]? := fun k => by
    rw [show w.heap.size + 1 = (w.alloc (.cells #[.int .i64 a.u, .int .i64 a.v, .int .u64 a.w] 60)).heap.size from by simp, World.cell?_alloc_new]
  exact ⟨h2 0 _ (by rw [World.cell?_alloc_new]; rfl), h2 1 _ (by rw [World.cell?_alloc_new]; rfl), by rw [h3]; rfl, by rw [h3]; rfl, ((Below.refl _ w).alloc (Nat.le_refl _) _).alloc (by simp) _⟩
theorem Bx.later {a b : Arc} {w w' w'' : World} (h : Bx a b w w') (hb : Below w'.heap.size w' w'') : Bx a b w w'' := by
  obtain ⟨h1, h2, h3, h4, h5⟩ := h
  have l1 := World.block_lt_of_cell? _ _ h1
  have l3 := World.block_lt_of_cell? _ _ h3
  exact ⟨(hb.cell (p := ⟨w.heap.size, 0, none⟩) l1).trans h1, (hb.cell (p := ⟨w.heap.size, 1, none⟩) l1).trans h2, (hb.cell (p := ⟨w.heap.size + 1, 0, none⟩) l3).trans h3, (hb.cell (p := ⟨w.heap.size + 1, 1, none⟩) l3).trans h4, h5.trans (hb.mono h5.size)⟩
theorem Bx.alloc {a b : Arc} {w w' : World} (h : Bx a b w w') (o : Obj) : Bx a b w (w'.alloc o) := h.later ((Below.refl _ _).alloc (Nat.le_refl _) o)
theorem Bx.drew {a b : Arc} {w w' : World} (h : Bx a b w w') : Bx a b w w'.drew := h.later (Below.refl _ _).drew
/-- How two rows lie. -/
def ordI (a b : Arc) : Int := orI (cmpI a.u b.u) (cmpI a.v b.v)
theorem or_at (x y : Int) (w : World) : Calls Tryz.prog 41 #[.slice (some ⟨w.heap.size, 0, none⟩) 2 2] (w.alloc (.cells #[.int .i64 x, .int .i64 y] 3)) fun e w' => e = .returned (.int .i64 (orI x y)) ∧ w.alloc (.cells #[.int .i64 x, .int .i64 y] 3) = w' :=
  or_any w.heap.size x y _ (by rw [World.cell?_alloc_new]; rfl) (by rw [World.cell?_alloc_new]; rfl)
end Go.Proofs.YtpdfmfkoopdfgaaGreatDoor.Gr
end
section
namespace Go.Proofs.YtpdfmfkoopdfgaaGreatDoor.Gr
set_option maxRecDepth 100000
open Go.RowKit

theorem keep4 {p q : Nat} {x y z t : Int} {W0 w' w'' : World}
    (h : w'.cell? ⟨p, 0, none⟩ = some (.int .i64 x) ∧ w'.cell? ⟨p, 1, none⟩ = some (.int .i64 y) ∧ w'.cell? ⟨q, 0, none⟩ = some (.int .i64 z) ∧ w'.cell? ⟨q, 1, none⟩ = some (.int .i64 t) ∧ Below W0.heap.size W0 w') (hb : Below w'.heap.size w' w'') :
    w''.cell? ⟨p, 0, none⟩ = some (.int .i64 x) ∧ w''.cell? ⟨p, 1, none⟩ = some (.int .i64 y) ∧ w''.cell? ⟨q, 0, none⟩ = some (.int .i64 z) ∧ w''.cell? ⟨q, 1, none⟩ = some (.int .i64 t) ∧ Below W0.heap.size W0 w'' := by
  obtain ⟨h1, h2, h3, h4, h5⟩ := h
  have l1 := World.block_lt_of_cell? _ _ h1
  have l3 := World.block_lt_of_cell? _ _ h3
  exact ⟨(hb.cell (p := ⟨p, 0, none⟩) l1).trans h1, (hb.cell (p := ⟨p, 1, none⟩) l1).trans h2, (hb.cell (p := ⟨q, 0, none⟩) l3).trans h3, (hb.cell (p := ⟨q, 1, none⟩) l3).trans h4, h5.trans (hb.mono h5.size)⟩
theorem alloc4 {p q : Nat} {x y z t : Int} {W0 w' : World} (o : Obj)
    (h : w'.cell? ⟨p, 0, none⟩ = some (.int .i64 x) ∧ w'.cell? ⟨p, 1, none⟩ = some (.int .i64 y) ∧ w'.cell? ⟨q, 0, none⟩ = some (.int .i64 z) ∧ w'.cell? ⟨q, 1, none⟩ = some (.int .i64 t) ∧ Below W0.heap.size W0 w') :
    (w'.alloc o).cell? ⟨p, 0, none⟩ = some (.int .i64 x) ∧ (w'.alloc o).cell? ⟨p, 1, none⟩ = some (.int .i64 y) ∧ (w'.alloc o).cell? ⟨q, 0, none⟩ = some (.int .i64 z) ∧ (w'.alloc o).cell? ⟨q, 1, none⟩ = some (.int .i64 t) ∧ Below W0.heap.size W0 (w'.alloc o) :=
  keep4 h ((Below.refl _ _).alloc (Nat.le_refl _) o)
set_option maxHeartbeats 1000000 in
theorem order_any (a b : Arc) (w : World) : Calls Tryz.prog 152 #[a.val, b.val] w fun e w' => e = .returned (.int .i64 (ordI a b)) ∧ Below w.heap.size w w' := by
  have H0 := Lib.hid (Bx.start a b w)
  unfold Arc.val
  go_enter Tryz.func152, Tryz.ntmps152
  go_wp2
  have h0 := H0.out
  clear H0
  unfold Bx at h0
  generalize ((w.alloc (Obj.cells #[Value.int IntKind.i64 a.u, Value.int IntKind.i64 a.v, Value.int IntKind.u64 a.w] 60)).alloc
      (Obj.cells #[Value.int IntKind.i64 b.u, Value.int IntKind.i64 b.v, Value.int IntKind.u64 b.w] 60)) = W2 at h0 ⊢
  obtain ⟨c1, c2, c3, c4, hb⟩ := h0
  have HB := Lib.hid hb
  clear hb
  generalize w.heap.size = p at c1 c2 c3 c4 ⊢
  generalize p + 1 = q at c3 c4 ⊢
  have HS : Hid (W2.drew.cell? ⟨p, 0, none⟩ = some (.int .i64 a.u) ∧ W2.drew.cell? ⟨p, 1, none⟩ = some (.int .i64 a.v) ∧ W2.drew.cell? ⟨q, 0, none⟩ = some (.int .i64 b.u) ∧ W2.drew.cell? ⟨q, 1, none⟩ = some (.int .i64 b.v) ∧ Below W2.heap.size W2 W2.drew) := ⟨c1, c2, c3, c4, (Below.refl _ _).drew⟩
  clear c1 c2 c3 c4
  go_region_held3 (fun w' => w'.cell? ⟨p, 0, none⟩ = some (.int .i64 a.u) ∧ w'.cell? ⟨p, 1, none⟩ = some (.int .i64 a.v) ∧ w'.cell? ⟨q, 0, none⟩ = some (.int .i64 b.u) ∧ w'.cell? ⟨q, 1, none⟩ = some (.int .i64 b.v) ∧ Below W2.heap.size W2 w') (first | exact HS.out | assumption | exact alloc4 _ (by assumption))
    (first
      | (go_at_call 42; with_reducible refine (compare_any _ _ _).mono ?_; rintro e w' ⟨rfl, rfl⟩)
      | (go_at_call 41; refine (or_at _ _ W2.drew).mono ?_; rintro e w' ⟨rfl, rfl⟩))
  go_wp2
  go_ret
  exact ⟨rfl, HB.out.trans (((Below.refl W2.heap.size W2).alloc (Nat.le_refl _) _).drew.mono HB.out.size)⟩

/-- wealdref19.Has: the first row of two ends. -/
def rowOf (l : List Arc) (u v : Int) : Option Arc := l.find? fun a => decide (a.u = u ∧ a.v = v)
def hasW (l : List Arc) (u v : Int) : Int := ((rowOf l u v).map Arc.w).getD 0
def hasB (l : List Arc) (u v : Int) : Bool := (rowOf l u v).isSome
theorem find_split {p : Arc → Bool} {l : List Arc} {k : Nat} (h : k < l.length) : (l.take (k + 1)).find? p = ((l.take k).find? p).or (if p l[k] then some l[k] else none) := by
  rw [List.take_succ_eq_append_getElem h, List.find?_append]
  simp only [List.find?_cons, List.find?_nil]
  cases p l[k] <;> rfl
theorem rowOf_next {l : List Arc} {u v : Int} {k : Nat} (h : k < l.length) (hn : rowOf (l.take k) u v = none) (hx : ¬ (l[k].u = u ∧ l[k].v = v)) : rowOf (l.take (k + 1)) u v = none := by
  unfold rowOf at hn ⊢
  rw [find_split h, hn, if_neg (by simpa using hx)]; rfl
theorem rowOf_hit {l : List Arc} {u v : Int} {k : Nat} (h : k < l.length) (hn : rowOf (l.take k) u v = none) (hx : l[k].u = u ∧ l[k].v = v) : rowOf l u v = some l[k] := by
  unfold rowOf at hn ⊢
  conv => lhs; rw [← List.take_append_drop (k + 1) l]
  rw [List.find?_append, find_split h, hn, if_pos (by simpa using hx)]; rfl
theorem refHas_any (A : Option Addr) (c n : Nat) (l : List Arc) (u v : Int) (w : World) (hn : n = l.length) (hl : Arcs w A l) :
    Calls Tryz.prog 31 #[.slice A n c, .int .i64 u, .int .i64 v] w fun e w' => e = .returned (.tuple #[.int .u64 (hasW l u v), .bool (hasB l u v)]) ∧ w = w' := by
  subst hn
  have hm := hl.1
  have HL := Lib.hid hl
  clear hl
  go_enter Tryz.func31, Tryz.ntmps31
  go_wp2
  go_loop [8] (fun i => ∃ k : Nat, k ≤ l.length ∧ i = .int .i64 k ∧ rowOf (l.take k) u v = none) (fun i => l.length - (intOf i).toNat)
  case atStart => exact ⟨0, Nat.zero_le _, rfl, rfl⟩
  case round =>
    obtain ⟨k, hk, rfl, hr⟩ := hrel
    by_cases hlt : k < l.length
    · obtain ⟨b, off, hA, hcs⟩ := HL.out.2.2 (by omega)
      obtain ⟨c1, c2, c3⟩ := hcs k l[k] (List.getElem?_eq_getElem hlt)
      clear hcs
      subst hA
      have HN := Lib.hid (rowOf_next hlt hr)
      have HH := Lib.hid (rowOf_hit hlt hr)
      clear hr
      generalize l[k] = a at c1 c2 c3 HN HH
      cases hu : (a.u == u)
      · have hx := Lib.hid (HN.out (fun h => by simp [h.1] at hu))
        go_wp2
        go_round
        case rel => exact ⟨k + 1, by omega, by go_num, hx.out⟩
        case measure => simp [intOf]; omega
      · cases hv : (a.v == v)
        · have hx := Lib.hid (HN.out (fun h => by simp [h.2] at hv))
          go_wp2
          go_round
          case rel => exact ⟨k + 1, by omega, by go_num, hx.out⟩
          case measure => simp [intOf]; omega
        · have hx := Lib.hid (HH.out ⟨by simpa using hu, by simpa using hv⟩)
          have e1 := Lib.hid (show hasW l u v = a.w from by unfold hasW; rw [hx.out]; rfl)
          have e2 := Lib.hid (show hasB l u v = true from by unfold hasB; rw [hx.out]; rfl)
          go_wp2
          go_ret2
          exact ⟨by rw [e1.out, e2.out]; rfl, rfl⟩
    · have hx := Lib.hid (show rowOf l u v = none from by rw [show k = l.length from by omega, List.take_length] at hr; exact hr)
      have e1 := Lib.hid (show hasW l u v = 0 from by unfold hasW; rw [hx.out]; rfl)
      have e2 := Lib.hid (show hasB l u v = false from by unfold hasB; rw [hx.out]; rfl)
      clear hr
      go_wp2
      go_ret2
      exact ⟨by rw [e1.out, e2.out]; rfl, rfl⟩
attribute [irreducible] hasW hasB
theorem refIn_any (A : Option Addr) (c n : Nat) (l : List Arc) (u : Int) (w : World) (hn : n = l.length) (hl : Arcs w A l) :
    Calls Tryz.prog 19 #[.slice A n c, .int .i64 u] w fun e w' => e = .returned (.bool (hasB l u (-1))) ∧ w = w' := by
  have HN := Lib.hid hn
  have HL := Lib.hid hl
  clear hn hl
  go_enter Tryz.func19, Tryz.ntmps19
  go_wp2_with (go_at_call 31; ((with_reducible refine (refHas_any A c n l u (-1) _ HN.out HL.out).mono ?_); rintro e w' ⟨rfl, rfl⟩))
  go_ret
  exact ⟨rfl, rfl⟩
end Go.Proofs.YtpdfmfkoopdfgaaGreatDoor.Gr
end
