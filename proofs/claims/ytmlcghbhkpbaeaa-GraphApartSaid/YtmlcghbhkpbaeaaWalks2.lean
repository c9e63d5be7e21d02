/- How two rows lie, as the program reckons it; a row's place. -/
import Derived.Test.YtmlcghbhkpbaeaaWalks1
namespace Go.Proofs.Ytmlcghbhkpbaeaa
open Go.RowKit

theorem keep4 {p q : Nat} {x y z t : Int} {W0 w' w'' : World}
    (h : w'.cell? ⟨p, 0, none⟩ = some (.int .i64 x) ∧ w'.cell? ⟨p, 1, none⟩ = some (.int .i64 y) ∧ w'.cell? ⟨q, 0, none⟩ = some (.int .i64 z) ∧ w'.cell? ⟨q, 1, none⟩ = some (.int .i64 t) ∧ Below W0.heap.size W0 w') (hb : Below w'.heap.size w' w'') :
    w''.cell? ⟨p, 0, none⟩ = some (.int .i64 x) ∧ w''.cell? ⟨p, 1, none⟩ = some (.int .i64 y) ∧ w''.cell? ⟨q, 0, none⟩ = some (.int .i64 z) ∧ w''.cell? ⟨q, 1, none⟩ = some (.int .i64 t) ∧ Below W0.heap.size W0 w'' := by
  obtain ⟨h1, h2, h3, h4, h5⟩ := h
  have l1 := World.block_lt_of_cell? _ _ h1
  have l3 := World.block_lt_of_cell? _ _ h3
  exact ⟨(hb.cell (p := ⟨p, 0, none⟩) l1).trans h1, (hb.cell (p := ⟨p, 1, none⟩) l1).trans h2, (hb.cell (p := ⟨q, 0, none⟩) l3).trans h3, (hb.cell (p := ⟨q, 1, none⟩) l3).trans h4, h5.trans (hb.mono h5.size)⟩
theorem alloc4 {p q : Nat} {x y z t : Int} {W0 w' : World} (o : Obj)
    (h : w'.cell? ⟨p, 0, none⟩ = some (.int .i64 x) ∧ w'.cell? ⟨p, 1, none⟩ = some (.int .i64 y) ∧ w'.cell? ⟨q, 0, none⟩ = some (.int .i64 z) ∧ w'.cell? ⟨q, 1, none⟩ = some (.int .i64 t) ∧ Below W0.heap.size W0 w') :
    (w'.alloc o).cell? ⟨p, 0, none⟩ = some (.int .i64 x) ∧ (w'.alloc o).cell? ⟨p, 1, none⟩ = some (.int .i64 y) ∧ (w'.alloc o).cell? ⟨q, 0, none⟩ = some (.int .i64 z) ∧ (w'.alloc o).cell? ⟨q, 1, none⟩ = some (.int .i64 t) ∧ Below W0.heap.size W0 (w'.alloc o) :=
  keep4 h ((Below.refl _ _).alloc (Nat.le_refl _) o)
set_option maxHeartbeats 1000000 in
theorem order_any (a b : Arc) (w : World) : Calls Try.prog 27 #[a.val, b.val] w fun e w' => e = .returned (.int .i64 (ordI a b)) ∧ Below w.heap.size w w' := by
  have H0 := Lib.hid (Bx.start a b w)
  unfold Arc.val
  go_enter Try.func27, Try.ntmps27
  go_wp2
  have h0 := H0.out
  clear H0
  unfold Bx at h0
  generalize ((w.alloc (Obj.cells #[Value.int IntKind.i64 a.u, Value.int IntKind.i64 a.v, Value.int IntKind.u64 a.w] 41)).alloc
      (Obj.cells #[Value.int IntKind.i64 b.u, Value.int IntKind.i64 b.v, Value.int IntKind.u64 b.w] 41)) = W2 at h0 ⊢
  obtain ⟨c1, c2, c3, c4, hb⟩ := h0
  have HB := Lib.hid hb
  clear hb
  generalize w.heap.size = p at c1 c2 c3 c4 ⊢
  generalize p + 1 = q at c3 c4 ⊢
  have HS : Hid (W2.drew.cell? ⟨p, 0, none⟩ = some (.int .i64 a.u) ∧ W2.drew.cell? ⟨p, 1, none⟩ = some (.int .i64 a.v) ∧ W2.drew.cell? ⟨q, 0, none⟩ = some (.int .i64 b.u) ∧ W2.drew.cell? ⟨q, 1, none⟩ = some (.int .i64 b.v) ∧ Below W2.heap.size W2 W2.drew) := ⟨c1, c2, c3, c4, (Below.refl _ _).drew⟩
  clear c1 c2 c3 c4
  go_region_held3 (fun w' => w'.cell? ⟨p, 0, none⟩ = some (.int .i64 a.u) ∧ w'.cell? ⟨p, 1, none⟩ = some (.int .i64 a.v) ∧ w'.cell? ⟨q, 0, none⟩ = some (.int .i64 b.u) ∧ w'.cell? ⟨q, 1, none⟩ = some (.int .i64 b.v) ∧ Below W2.heap.size W2 w') (first | exact HS.out | assumption | exact alloc4 _ (by assumption))
    (first
      | (go_at_call 39; with_reducible refine (compare_any _ _ _).mono ?_; rintro e w' ⟨rfl, rfl⟩)
      | (go_at_call 38; refine (or_at _ _ W2.drew).mono ?_; rintro e w' ⟨rfl, rfl⟩))
  go_wp2
  go_ret
  exact ⟨rfl, HB.out.trans (((Below.refl W2.heap.size W2).alloc (Nat.le_refl _) _).drew.mono HB.out.size)⟩

/-- wealdref19.Has: the first row of two ends. -/
def rowOf (l : List Arc) (u v : Int) : Option Arc := l.find? fun a => decide (a.u = u ∧ a.v = v)
def hasW (l : List Arc) (u v : Int) : Int := ((rowOf l u v).map Arc.w).getD 0
def hasB (l : List Arc) (u v : Int) : Bool := (rowOf l u v).isSome
theorem find_split {p : Arc → Bool} {l : List Arc} {k : Nat} (h : k < l.length) : (l.take (k + 1)).find? p = ((l.take k).find? p).or (if p l[k] then some l[k] else none) := by
  rw [List.take_succ_eq_append_getElem h, List.find?_append]
  simp only [List.find?_cons, List.find?_nil]
  cases p l[k] <;> rfl
theorem rowOf_next {l : List Arc} {u v : Int} {k : Nat} (h : k < l.length) (hn : rowOf (l.take k) u v = none) (hx : ¬ (l[k].u = u ∧ l[k].v = v)) : rowOf (l.take (k + 1)) u v = none := by
  unfold rowOf at hn ⊢
  rw [find_split h, hn, if_neg (by simpa using hx)]; rfl
theorem rowOf_hit {l : List Arc} {u v : Int} {k : Nat} (h : k < l.length) (hn : rowOf (l.take k) u v = none) (hx : l[k].u = u ∧ l[k].v = v) : rowOf l u v = some l[k] := by
  unfold rowOf at hn ⊢
  conv => lhs; rw [← List.take_append_drop (k + 1) l]
  rw [List.find?_append, find_split h, hn, if_pos (by simpa using hx)]; rfl
theorem refHas_any (A : Option Addr) (c n : Nat) (l : List Arc) (u v : Int) (w : World) (hn : n = l.length) (hl : Arcs w A l) :
    Calls Try.prog 26 #[.slice A n c, .int .i64 u, .int .i64 v] w fun e w' => e = .returned (.tuple #[.int .u64 (hasW l u v), .bool (hasB l u v)]) ∧ w = w' := by
  subst hn
  have hm := hl.1
  have HL := Lib.hid hl
  clear hl
  go_enter Try.func26, Try.ntmps26
  go_wp2
  go_loop [8] (fun i => ∃ k : Nat, k ≤ l.length ∧ i = .int .i64 k ∧ rowOf (l.take k) u v = none) (fun i => l.length - (intOf i).toNat)
  case atStart => exact ⟨0, Nat.zero_le _, rfl, rfl⟩
  case round =>
    obtain ⟨k, hk, rfl, hr⟩ := hrel
    by_cases hlt : k < l.length
    · obtain ⟨b, off, hA, hcs⟩ := HL.out.2.2 (by omega)
      obtain ⟨c1, c2, c3⟩ := hcs k l[k] (List.getElem?_eq_getElem hlt)
      clear hcs
      subst hA
      have HN := Lib.hid (rowOf_next hlt hr)
      have HH := Lib.hid (rowOf_hit hlt hr)
      clear hr
      generalize l[k] = a at c1 c2 c3 HN HH
      cases hu : (a.u == u)
      · have hx := Lib.hid (HN.out (fun h => by simp [h.1] at hu))
        go_wp2
        go_round
        case rel => exact ⟨k + 1, by omega, by go_num, hx.out⟩
        case measure => simp [intOf]; omega
      · cases hv : (a.v == v)
        · have hx := Lib.hid (HN.out (fun h => by simp [h.2] at hv))
          go_wp2
          go_round
          case rel => exact ⟨k + 1, by omega, by go_num, hx.out⟩
          case measure => simp [intOf]; omega
        · have hx := Lib.hid (HH.out ⟨by simpa using hu, by simpa using hv⟩)
          have e1 := Lib.hid (show hasW l u v = a.w from by unfold hasW; rw [hx.out]; rfl)
          have e2 := Lib.hid (show hasB l u v = true from by unfold hasB; rw [hx.out]; rfl)
          go_wp2
          go_ret2
          exact ⟨by rw [e1.out, e2.out]; rfl, rfl⟩
    · have hx := Lib.hid (show rowOf l u v = none from by rw [show k = l.length from by omega, List.take_length] at hr; exact hr)
      have e1 := Lib.hid (show hasW l u v = 0 from by unfold hasW; rw [hx.out]; rfl)
      have e2 := Lib.hid (show hasB l u v = false from by unfold hasB; rw [hx.out]; rfl)
      clear hr
      go_wp2
      go_ret2
      exact ⟨by rw [e1.out, e2.out]; rfl, rfl⟩
attribute [irreducible] hasW hasB
theorem refIn_any (A : Option Addr) (c n : Nat) (l : List Arc) (u : Int) (w : World) (hn : n = l.length) (hl : Arcs w A l) :
    Calls Try.prog 16 #[.slice A n c, .int .i64 u] w fun e w' => e = .returned (.bool (hasB l u (-1))) ∧ w = w' := by
  have HN := Lib.hid hn
  have HL := Lib.hid hl
  clear hn hl
  go_enter Try.func16, Try.ntmps16
  go_wp2_with (go_at_call 26; ((with_reducible refine (refHas_any A c n l u (-1) _ HN.out HL.out).mono ?_); rintro e w' ⟨rfl, rfl⟩))
  go_ret
  exact ⟨rfl, rfl⟩
end Go.Proofs.Ytmlcghbhkpbaeaa
