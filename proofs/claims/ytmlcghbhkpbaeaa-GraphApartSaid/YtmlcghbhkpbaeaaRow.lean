/- graph.row, graph.Right's function, slices.ContainsFunc. -/
import Derived.Test.YtmlcghbhkpbaeaaDo5
namespace Go.Proofs.Ytmlcghbhkpbaeaa
open Go.RowKit Aid

theorem errT : errV true = 0 := by unfold errV; simp
theorem errF : errV false = 4 := by unfold errV; simp
/-- May a row be? -/
def rowB (l : List Arc) (a : Arc) : Bool := if a.v = -1 then isV a.u && decide (a.w = 0) else (isV a.u && isV a.v) && (inB l a.u && inB l a.v)
def InAt (l : List Arc) (A : Option Addr) (c : Nat) (w : World) : Prop := ∀ W y, Below w.heap.size w W → Calls Try.prog 20 #[.slice A l.length c, .int .i64 y, .int .i64 (-1)] W fun e w' => e = .returned (.bool (inB l y)) ∧ Below W.heap.size W w'
theorem in_at {l : List Arc} {A : Option Addr} {c : Nat} {w : World} (hl : Arcs w A l) (hs : Rises l) (h40 : l.length ≤ 1000) : InAt l A c w := fun W y hW => in_any A c l.length l y (-1) W rfl (hl.below hW (Nat.le_refl _)) hs h40
theorem row_v (l : List Arc) (A : Option Addr) (c : Nat) (u x : Int) (w : World) (hu : isV u = true) : Calls Try.prog 30 #[.slice A l.length c, .agg #[.int .i64 u, .int .i64 (-1), .int .u64 x]] w fun e w' => e = .returned (.bool (x == 0)) ∧ Below w.heap.size w w' := by
  have HA := Lib.hid ((Below.refl w.heap.size w).alloc (Nat.le_refl _) (.cells #[.int .i64 u, .int .i64 (-1), .int .u64 x] 41))
  have HV : Hid (∀ W, Calls Try.prog 32 #[.int .i64 u] W fun e w' => (∃ k, e = .returned (.tuple #[.int .u64 k, .int .i64 0])) ∧ W = w') := Lib.hid (fun W => by have := vertex_any u W; rw [hu, errT] at this; exact this)
  clear hu
  go_enter Try.func30, Try.ntmps30
  go_wp2_with (go_at_call 32; ((with_reducible refine (HV.out _).mono ?_); rintro e w' ⟨⟨k1, rfl⟩, rfl⟩))
  go_ret
  exact ⟨rfl, HA.out⟩
theorem row_v_no (l : List Arc) (A : Option Addr) (c : Nat) (u x : Int) (w : World) (hu : isV u = false) : Calls Try.prog 30 #[.slice A l.length c, .agg #[.int .i64 u, .int .i64 (-1), .int .u64 x]] w fun e w' => e = .returned (.bool false) ∧ Below w.heap.size w w' := by
  have HA := Lib.hid ((Below.refl w.heap.size w).alloc (Nat.le_refl _) (.cells #[.int .i64 u, .int .i64 (-1), .int .u64 x] 41))
  have HV : Hid (∀ W, Calls Try.prog 32 #[.int .i64 u] W fun e w' => (∃ k, e = .returned (.tuple #[.int .u64 k, .int .i64 4])) ∧ W = w') := Lib.hid (fun W => by have := vertex_any u W; rw [hu, errF] at this; exact this)
  clear hu
  go_enter Try.func30, Try.ntmps30
  go_wp2_with (go_at_call 32; ((with_reducible refine (HV.out _).mono ?_); rintro e w' ⟨⟨k1, rfl⟩, rfl⟩))
  go_ret
  exact ⟨rfl, HA.out⟩
theorem row_e_no (l : List Arc) (A : Option Addr) (c : Nat) (u v x : Int) (w : World) (hv : (v == -1) = false) (hu : (isV u && isV v) = false) : Calls Try.prog 30 #[.slice A l.length c, .agg #[.int .i64 u, .int .i64 v, .int .u64 x]] w fun e w' => e = .returned (.bool false) ∧ Below w.heap.size w w' := by
  have HA := Lib.hid ((Below.refl w.heap.size w).alloc (Nat.le_refl _) (.cells #[.int .i64 u, .int .i64 v, .int .u64 x] 41))
  have HV : Hid (∀ W, Calls Try.prog 33 #[.int .i64 u, .int .i64 v] W fun e w' => (∃ k, e = .returned (.tuple #[.int .u64 k, .int .i64 4])) ∧ W = w') := Lib.hid (fun W => by have := edge_any u v W; rw [hu, errF] at this; exact this)
  clear hu
  go_enter Try.func30, Try.ntmps30
  go_wp2_with (go_at_call 33; ((with_reducible refine (HV.out _).mono ?_); rintro e w' ⟨⟨k1, rfl⟩, rfl⟩))
  go_ret
  exact ⟨rfl, HA.out⟩
theorem row_e (l : List Arc) (A : Option Addr) (c : Nat) (u v x : Int) (w : World) (hI : InAt l A c w) (hv : (v == -1) = false) (hu : (isV u && isV v) = true) : Calls Try.prog 30 #[.slice A l.length c, .agg #[.int .i64 u, .int .i64 v, .int .u64 x]] w fun e w' => e = .returned (.bool (inB l u && inB l v)) ∧ Below w.heap.size w w' := by
  have HA := Lib.hid ((Below.refl w.heap.size w).alloc (Nat.le_refl _) (.cells #[.int .i64 u, .int .i64 v, .int .u64 x] 41))
  have HV : Hid (∀ W, Calls Try.prog 33 #[.int .i64 u, .int .i64 v] W fun e w' => (∃ k, e = .returned (.tuple #[.int .u64 k, .int .i64 0])) ∧ W = w') := Lib.hid (fun W => by have := edge_any u v W; rw [hu, errT] at this; exact this)
  have d0 : (w.alloc (.cells #[.int .i64 u, .int .i64 v, .int .u64 x] 41)).cell? ⟨w.heap.size, 0, none⟩ = some (.int .i64 u) := by rw [World.cell?_alloc_new]; rfl
  have d1 : (w.alloc (.cells #[.int .i64 u, .int .i64 v, .int .u64 x] 41)).cell? ⟨w.heap.size, 1, none⟩ = some (.int .i64 v) := by rw [World.cell?_alloc_new]; rfl
  have K1 : Hid (∀ w1, Below (w.alloc (.cells #[.int .i64 u, .int .i64 v, .int .u64 x] 41)).heap.size (w.alloc (.cells #[.int .i64 u, .int .i64 v, .int .u64 x] 41)) w1 → w1.cell? ⟨w.heap.size, 1, none⟩ = some (.int .i64 v) ∧ Below w.heap.size w w1) := Lib.hid (fun w1 h => ⟨(h.cell (p := ⟨w.heap.size, 1, none⟩) (World.block_lt_of_cell? _ _ d1)).trans d1, HA.out.trans (h.mono HA.out.size)⟩)
  have HU := Lib.hid (hI _ u HA.out)
  have HW := Lib.hid hI
  clear hu hI
  cases h1 : inB l u
  · rw [h1] at HU
    go_enter Try.func30, Try.ntmps30
    go_wp2_with (first
      | (go_at_call 33; ((with_reducible refine (HV.out _).mono ?_); rintro e w' ⟨⟨k1, rfl⟩, rfl⟩))
      | (go_at_call 20; ((with_reducible refine HU.out.mono ?_); rintro e w' ⟨rfl, hb⟩; obtain ⟨_, hb2⟩ := K1.out _ hb; have HB2 := Lib.hid hb2; clear hb hb2)))
    go_ret
    exact ⟨rfl, HB2.out⟩
  · rw [h1] at HU
    go_enter Try.func30, Try.ntmps30
    go_wp2_with (first
      | (go_at_call 33; ((with_reducible refine (HV.out _).mono ?_); rintro e w' ⟨⟨k1, rfl⟩, rfl⟩))
      | (go_at_call 20; ((with_reducible refine HU.out.mono ?_); rintro e w' ⟨rfl, hb⟩; obtain ⟨e1, hb2⟩ := K1.out _ hb; have HB2 := Lib.hid hb2; have HU2 := Lib.hid (HW.out _ v hb2); clear hb hb2))
      | (go_at_call 20; ((with_reducible refine HU2.out.mono ?_); rintro e w'' ⟨rfl, hb⟩; have HB3 := Lib.hid (HB2.out.trans (hb.mono HB2.out.size)); clear hb)))
    go_ret
    exact ⟨rfl, HB3.out⟩
theorem row_any (l : List Arc) (A : Option Addr) (c : Nat) (a : Arc) (w : World) (hI : InAt l A c w) : Calls Try.prog 30 #[.slice A l.length c, a.val] w fun e w' => e = .returned (.bool (rowB l a)) ∧ Below w.heap.size w w' := by
  obtain ⟨u, v, x⟩ := a
  by_cases hv : v = -1
  · subst hv
    cases hu : isV u
    · have : rowB l ⟨u, -1, x⟩ = false := by unfold rowB; simp [hu]
      rw [this]; exact row_v_no l A c u x w hu
    · have : rowB l ⟨u, -1, x⟩ = (x == 0) := by
        unfold rowB; simp [hu]
        by_cases h : x = 0 <;> simp [h]
      rw [this]; exact row_v l A c u x w hu
  · cases hu : (isV u && isV v)
    · have : rowB l ⟨u, v, x⟩ = false := by unfold rowB; simp only; rw [if_neg hv, hu]; rfl
      rw [this]; exact row_e_no l A c u v x w (by simpa using hv) hu
    · have : rowB l ⟨u, v, x⟩ = (inB l u && inB l v) := by unfold rowB; simp only; rw [if_neg hv, hu]; rfl
      rw [this]; exact row_e l A c u v x w hI (by simpa using hv) hu
/-- graph.Right's function, of a graph in a box. -/
theorem right1_any (l : List Arc) (A : Option Addr) (c b : Nat) (a : Arc) (w : World) (hb : w.cell? ⟨b, 0, none⟩ = some (.slice A l.length c)) (hI : InAt l A c w) : Calls Try.prog 29 #[a.val, .pointer (some ⟨b, 0, none⟩)] w fun e w' => e = .returned (.bool (!rowB l a)) ∧ Below w.heap.size w w' := by
  have HA := Lib.hid ((Below.refl w.heap.size w).alloc (Nat.le_refl _) (.cells #[.int .i64 a.u, .int .i64 a.v, .int .u64 a.w] 41))
  have c0 := (HA.out.cell (p := ⟨b, 0, none⟩) (World.block_lt_of_cell? _ _ hb)).trans hb
  have HR := Lib.hid (row_any l A c a (w.alloc (.cells #[.int .i64 a.u, .int .i64 a.v, .int .u64 a.w] 41)) (fun W y hW => hI W y (HA.out.trans (hW.mono HA.out.size))))
  unfold Arc.val at HR ⊢
  clear hb hI
  go_enter Try.func29, Try.ntmps29
  go_wp2_with (go_at_call 30; ((with_reducible refine HR.out.mono ?_); rintro e w' ⟨rfl, hb⟩; have HB := Lib.hid (HA.out.trans (hb.mono HA.out.size)); clear hb))
  go_ret
  exact ⟨rfl, HB.out⟩
theorem says3 {l : List Arc} {A : Option Addr} {c b : Nat} {w : World} (hb : w.cell? ⟨b, 0, none⟩ = some (.slice A l.length c)) (hI : InAt l A c w) : Says 29 #[.pointer (some ⟨b, 0, none⟩)] (fun a => !rowB l a) w :=
  fun W a hW => right1_any l A c b a W ((hW.cell (p := ⟨b, 0, none⟩) (World.block_lt_of_cell? _ _ hb)).trans hb) (fun W' y hW' => hI W' y (hW.trans (hW'.mono hW.size)))
theorem first_any (l : List Arc) (p : Arc → Bool) : decide (0 ≤ firstI l p) = l.any p := by
  unfold firstI
  cases h : l.findIdx? p with
  | some i =>
    rw [List.findIdx?_eq_some_iff_getElem] at h
    obtain ⟨hi, hp, _⟩ := h
    have : l.any p = true := List.any_eq_true.2 ⟨l[i], List.getElem_mem hi, hp⟩
    rw [this]; simp
  | none =>
    rw [List.findIdx?_eq_none_iff] at h
    have : l.any p = false := List.any_eq_false.2 (fun x hx => by simp [h x hx])
    rw [this]; rfl
theorem contains_any (g : Nat) (lb : Array Value) (eg : ∀ args w, (callFunc g args).run Try.prog w = .ok (.enter g args) w) (p : Arc → Bool) (A : Option Addr) (c n : Nat) (l : List Arc) (w : World) (hn : n = l.length) (hl : Arcs w A l) (h40 : l.length ≤ 1000) (hp : Says g lb p w) :
    Calls Try.prog 28 #[.slice A n c, .func (.func g) #[] lb] w fun e w' => e = .returned (.bool (l.any p)) ∧ Below w.heap.size w w' := by
  have HI := Lib.hid (index_any g lb eg p A c n l w hn hl h40 hp)
  have HF := Lib.hid (first_any l p)
  clear hn hl h40 hp
  go_enter Try.func28, Try.ntmps28
  go_wp2_with (go_at_call 40; ((with_reducible refine HI.out.mono ?_); rintro e w' ⟨rfl, hb⟩; have HB := Lib.hid hb; clear hb))
  go_ret
  exact ⟨congrArg (fun b => Ending.returned (Value.bool b)) HF.out, HB.out⟩
end Go.Proofs.Ytmlcghbhkpbaeaa
