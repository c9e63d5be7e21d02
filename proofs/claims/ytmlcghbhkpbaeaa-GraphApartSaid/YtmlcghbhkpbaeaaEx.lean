/- The document's example: its lists, its calls. -/
import Derived.Test.YtmlcghbhkpbaeaaRight
namespace Go.Proofs.Ytmlcghbhkpbaeaa
open Go.RowKit Aid

theorem rises_of {l : List Arc} (h : l.Pairwise Lt) : Rises l := by
  intro i j a b hij ha hb
  obtain ⟨hi, rfl⟩ := List.getElem?_eq_some_iff.1 ha
  obtain ⟨hj, rfl⟩ := List.getElem?_eq_some_iff.1 hb
  exact List.pairwise_iff_getElem.1 h i j hi hj hij
def gL : List Arc := [⟨1, -1, 0⟩, ⟨1, 2, 7⟩, ⟨2, -1, 0⟩]
def hL : List Arc := [⟨1, -1, 0⟩]
def iL : List Arc := [⟨1, -1, 0⟩, ⟨2, -1, 0⟩]
def kL : List Arc := [⟨1, 2, 7⟩, ⟨2, -1, 0⟩]
theorem rises_gL : Rises gL := rises_of (by unfold gL Lt; decide)
theorem rises_hL : Rises hL := rises_of (by unfold hL Lt; decide)
theorem rises_iL : Rises iL := rises_of (by unfold iL Lt; decide)
theorem rises_kL : Rises kL := rises_of (by unfold kL Lt; decide)
theorem do_at (l m : List Arc) (o : Op) (a : Ans) (W : World) (A : Option Addr) (c : Nat) (hl : Arcs W A l) (hs : Rises l) (h40 : l.length ≤ 999) (ho : o.Fine) (hG : doG l o = m) (hA : doA l o = a) :
    Calls Try.prog 10 #[.slice A l.length c, o.val] W fun e w' => ∃ B d C f, e = .returned (.tuple #[.slice B m.length d, a.val C f]) ∧ Arcs w' B m ∧ Below W.heap.size W w' := by
  refine (do_any A c l.length l o W rfl hl hs h40 ho).mono ?_
  rintro e w' ⟨B, d, C, f, h, h1, h2, h3⟩
  rw [hG] at h h1
  rw [hA] at h
  exact ⟨B, d, C, f, h, h1, h3⟩
theorem fine (k u v x : Int) (hk : 0 ≤ k ∧ k < 100) (hu : 0 ≤ u ∧ u < 100) (hv : 0 ≤ v ∧ v < 100) (hx : 0 ≤ x ∧ x < 100) : (⟨k, u, v, x⟩ : Op).Fine := by
  unfold Op.Fine; simp only; omega
theorem ex1 (W : World) (A : Option Addr) (c : Nat) (hl : Arcs W A gL) : Calls Try.prog 10 #[.slice A 3 c, .agg #[.int .i64 16, .int .i64 1, .int .i64 2, .int .u64 0]] W fun e w' => ∃ B d C f, e = .returned (.tuple #[.slice B 3 d, .agg #[.int .i64 0, .bool true, .int .i64 0, .int .u64 7, .slice C 0 f]]) ∧ Arcs w' B gL ∧ Below W.heap.size W w' :=
  do_at gL gL ⟨16, 1, 2, 0⟩ ⟨0, true, 0, 7, []⟩ W A c hl rises_gL (by decide) (fine _ _ _ _ (by decide) (by decide) (by decide) (by decide)) (by decide +kernel) (by decide +kernel)
theorem ex2 (W : World) (A : Option Addr) (c : Nat) (hl : Arcs W A gL) : Calls Try.prog 10 #[.slice A 3 c, .agg #[.int .i64 12, .int .i64 2, .int .i64 0, .int .u64 0]] W fun e w' => ∃ B d C f, e = .returned (.tuple #[.slice B 1 d, .agg #[.int .i64 0, .bool true, .int .i64 0, .int .u64 0, .slice C 0 f]]) ∧ Arcs w' B hL ∧ Below W.heap.size W w' :=
  do_at gL hL ⟨12, 2, 0, 0⟩ ⟨0, true, 0, 0, []⟩ W A c hl rises_gL (by decide) (fine _ _ _ _ (by decide) (by decide) (by decide) (by decide)) (by decide +kernel) (by decide +kernel)
theorem ex3 (W : World) (A : Option Addr) (c : Nat) (hl : Arcs W A hL) : Calls Try.prog 10 #[.slice A 1 c, .agg #[.int .i64 11, .int .i64 2, .int .i64 0, .int .u64 0]] W fun e w' => ∃ B d C f, e = .returned (.tuple #[.slice B 2 d, .agg #[.int .i64 0, .bool true, .int .i64 0, .int .u64 0, .slice C 0 f]]) ∧ Arcs w' B iL ∧ Below W.heap.size W w' :=
  do_at hL iL ⟨11, 2, 0, 0⟩ ⟨0, true, 0, 0, []⟩ W A c hl rises_hL (by decide) (fine _ _ _ _ (by decide) (by decide) (by decide) (by decide)) (by decide +kernel) (by decide +kernel)
theorem ex4 (W : World) (A : Option Addr) (c : Nat) (hl : Arcs W A iL) : Calls Try.prog 10 #[.slice A 2 c, .agg #[.int .i64 16, .int .i64 1, .int .i64 2, .int .u64 0]] W fun e w' => ∃ B d C f, e = .returned (.tuple #[.slice B 2 d, .agg #[.int .i64 0, .bool false, .int .i64 0, .int .u64 0, .slice C 0 f]]) ∧ Arcs w' B iL ∧ Below W.heap.size W w' :=
  do_at iL iL ⟨16, 1, 2, 0⟩ ⟨0, false, 0, 0, []⟩ W A c hl rises_iL (by decide) (fine _ _ _ _ (by decide) (by decide) (by decide) (by decide)) (by decide +kernel) (by decide +kernel)
theorem ex5 (W : World) (A : Option Addr) (c : Nat) (hl : Arcs W A gL) : Calls Try.prog 10 #[.slice A 3 c, .agg #[.int .i64 14, .int .i64 1, .int .i64 3, .int .u64 0]] W fun e w' => ∃ B d C f, e = .returned (.tuple #[.slice B 3 d, .agg #[.int .i64 5, .bool false, .int .i64 0, .int .u64 0, .slice C 0 f]]) ∧ Arcs w' B gL ∧ Below W.heap.size W w' :=
  do_at gL gL ⟨14, 1, 3, 0⟩ ⟨5, false, 0, 0, []⟩ W A c hl rises_gL (by decide) (fine _ _ _ _ (by decide) (by decide) (by decide) (by decide)) (by decide +kernel) (by decide +kernel)
theorem ex6 (W : World) (A : Option Addr) (c : Nat) (hl : Arcs W A gL) : Calls Try.prog 14 #[.slice A 3 c, .int .i64 1, .int .i64 2] W fun e w' => e = .returned (.tuple #[.int .u64 7, .bool true]) ∧ Below W.heap.size W w' := by
  have e1 : hasW gL 1 2 = 7 := by decide +kernel
  have e2 : hasB gL 1 2 = true := by decide +kernel
  have h := has_any A c 3 gL 1 2 W rfl hl rises_gL (by decide)
  rw [e1, e2] at h; exact h
theorem ex7 (W : World) (A : Option Addr) (c : Nat) (hl : Arcs W A gL) : Calls Try.prog 15 #[.slice A 3 c, .int .i64 1] W fun e w' => ∃ b off d, e = .returned (.slice (some ⟨b, off, none⟩) 1 d) ∧ w'.cell? ⟨b, off, none⟩ = some (.int .i64 2) ∧ Below W.heap.size W w' := by
  refine (near_any A c 3 gL 1 W rfl hl (by decide)).mono ?_
  rintro e w' ⟨B, d, rfl, ho, hb⟩
  obtain ⟨b, off, rfl, hc⟩ := own_sl ho (by decide)
  exact ⟨b, off, d, rfl, hc 0 _ rfl, hb⟩
theorem ex8 (W : World) (A : Option Addr) (c : Nat) (hl : Arcs W A gL) : Calls Try.prog 17 #[.slice A 3 c] W fun e w' => e = .returned (.bool true) ∧ Below W.heap.size W w' := by
  have : (!gL.any fun a => !rowB gL a) = true := by decide +kernel
  have h := right_any A c 3 gL W rfl hl rises_gL (by decide)
  rw [this] at h; exact h
theorem ex9 (W : World) (A : Option Addr) (c : Nat) (hl : Arcs W A kL) : Calls Try.prog 17 #[.slice A 2 c] W fun e w' => e = .returned (.bool false) ∧ Below W.heap.size W w' := by
  have : (!kL.any fun a => !rowB kL a) = false := by decide +kernel
  have h := right_any A c 2 kL W rfl hl rises_kL (by decide)
  rw [this] at h; exact h
theorem ex10 (W : World) (A : Option Addr) (c d : Nat) (hl : Arcs W A gL) : Calls Try.prog 18 #[.slice A 3 c, .slice A 3 d] W fun e w' => e = .returned (.bool true) ∧ Below W.heap.size W w' := by
  have : sameB gL gL = true := by decide +kernel
  have h := same_any A A c d 3 3 gL gL W rfl rfl hl hl (by decide)
  rw [this] at h; exact h
theorem ex11 (W : World) (A B : Option Addr) (c d : Nat) (hl : Arcs W A gL) (hk : Arcs W B hL) : Calls Try.prog 18 #[.slice A 3 c, .slice B 1 d] W fun e w' => e = .returned (.bool false) ∧ Below W.heap.size W w' := by
  have : sameB gL hL = false := by decide +kernel
  have h := same_any A B c d 3 1 gL hL W rfl rfl hl hk (by decide)
  rw [this] at h; exact h
end Go.Proofs.Ytmlcghbhkpbaeaa
