/- LShown, LEither. -/
import Derived.Test.YtpdfmfkoopdfgaaGreatDoorB38
set_option linter.unusedVariables false
set_option linter.unusedSimpArgs false
section
namespace Go.Proofs.YtpdfmfkoopdfgaaGreatDoor
set_option maxRecDepth 100000
open Go.RowKit Aid Gr Hs LinP HeapP

theorem right_two {a b : Cl} (ha : mayB a = true) (hb : mayB b = true) (h : fitsB a b = true) : Hs.RightP [a, b] := fun j c hc => by
  rcases j with _ | _ | j
  · simp at hc; subst hc
    exact ⟨ha, fun k x hk _ => by omega⟩
  · simp at hc; subst hc
    refine ⟨hb, fun k x hk hx => ?_⟩
    obtain rfl : k = 0 := by omega
    simp at hx; subst hx
    exact h
  · simp at hc
theorem hist_two {a b : Cl} (ha : mayB a = true) (hb : mayB b = true) (h : fitsB a b = true) (fa : a.Fine) (fb : b.Fine) : HistIn [a, b] := ⟨right_two ha hb h, by simp, fun c hc => by
  rcases List.mem_cons.1 hc with rfl | hc
  · exact fa
  · rw [List.mem_singleton] at hc; subst hc; exact fb⟩
theorem cls_two (W : World) (a b : Cl) (t : TypeId) (ha : a.list = []) (hb : b.list = []) : Cls (W.alloc (.cells (a.cells ++ b.cells).toArray t)) (some ⟨W.heap.size, 0, none⟩) [a, b] := by
  refine ⟨fun c hc hp => ?_, fun _ => ⟨_, _, rfl, fun i c hi j v hv => ?_⟩⟩
  · exfalso
    rcases List.mem_cons.1 hc with rfl | hc
    · rw [ha] at hp; simp at hp
    · rw [List.mem_singleton] at hc; subst hc; rw [hb] at hp; simp at hp
  · rw [Nat.zero_add, World.cell?_alloc_new, List.getElem?_toArray]
    have la : a.cells.length = 13 := rfl
    rcases i with _ | _ | i
    · simp at hi; subst hi
      have hj := (List.getElem?_eq_some_iff.1 hv).1
      rw [List.getElem?_append_left (by omega), Nat.zero_mul, Nat.zero_add]; exact hv
    · simp at hi; subst hi
      rw [List.getElem?_append_right (by omega), la, show (0 + 1) * 13 + j - 13 = j by omega]; exact hv
    · simp at hi
theorem lin_two {W : World} {a b : Cl} (hT : Tab W) (ha : a.list = []) (hb : b.list = []) (h : HistIn [a, b]) : LIn (W.alloc (.cells (a.cells ++ b.cells).toArray 43)) none 0 [] (some ⟨W.heap.size, 0, none⟩) 2 [a, b] :=
  ⟨rfl, rfl, ⟨by simp, by simp, by simp⟩, fun i j a b _ h => (by simp at h), by simp, cls_two W a b 43 ha hb, fun c hc => by
    rcases List.mem_cons.1 hc with rfl | hc
    · rw [ha]; simp
    · rw [List.mem_singleton] at hc; subst hc; rw [hb]; simp, hT.below ((Below.refl _ _).alloc (Nat.le_refl _) _) (Nat.le_refl _), h⟩
theorem isV1 : Gr.isV 1 = true := by unfold Gr.isV; decide

theorem histB : HistIn [(clAdd 0 1 0 3 true), (clAsk 1 1 1 2 false)] := hist_two (by decide) (by decide) (by decide) ⟨by decide, by decide, by decide, by decide⟩ ⟨by decide, by decide, by decide, by decide⟩
theorem ordB (W : World) (hT : Tab W) : Calls Tryz.prog 14 #[.slice none 0 0, .slice (some ⟨W.heap.size, 0, none⟩) 2 2] (W.alloc (.cells #[.int .i64 0, .int .i64 11, .int .i64 1, .int .i64 0, .int .u64 0, .int .i64 0, .int .i64 0, .int .i64 3, .int .i64 0, .bool true, .int .i64 0, .int .u64 0, .slice none 0 0, .int .i64 1, .int .i64 13, .int .i64 1, .int .i64 0, .int .u64 0, .int .i64 0, .int .i64 1, .int .i64 2, .int .i64 0, .bool false, .int .i64 0, .int .u64 0, .slice none 0 0] 43)) fun e w' => e = .returned (.bool true) ∧ Below W.heap.size W w' := by
  have h := order_says none 0 0 [] (some ⟨W.heap.size, 0, none⟩) 2 2 [(clAdd 0 1 0 3 true), (clAsk 1 1 1 2 false)] _ (lin_two hT rfl rfl histB) true (by
    constructor
    · intro _
      exact ⟨[⟨1, -1, 0⟩], (add_ask isV1 (by decide) (by decide) _).1.2 ⟨by decide, rfl⟩⟩
    · intro _
      rfl)
  refine h.mono ?_
  rintro e w' ⟨he, hb⟩
  exact ⟨he, ((Below.refl W.heap.size W).alloc (Nat.le_refl _) _).trans (hb.mono (by rw [World.size_alloc]; omega))⟩

theorem histC : HistIn [(clAdd 0 1 0 3 true), (clAsk 1 1 1 2 true)] := hist_two (by decide) (by decide) (by decide) ⟨by decide, by decide, by decide, by decide⟩ ⟨by decide, by decide, by decide, by decide⟩
theorem ordC (W : World) (hT : Tab W) : Calls Tryz.prog 14 #[.slice none 0 0, .slice (some ⟨W.heap.size, 0, none⟩) 2 2] (W.alloc (.cells #[.int .i64 0, .int .i64 11, .int .i64 1, .int .i64 0, .int .u64 0, .int .i64 0, .int .i64 0, .int .i64 3, .int .i64 0, .bool true, .int .i64 0, .int .u64 0, .slice none 0 0, .int .i64 1, .int .i64 13, .int .i64 1, .int .i64 0, .int .u64 0, .int .i64 0, .int .i64 1, .int .i64 2, .int .i64 0, .bool true, .int .i64 0, .int .u64 0, .slice none 0 0] 43)) fun e w' => e = .returned (.bool true) ∧ Below W.heap.size W w' := by
  have h := order_says none 0 0 [] (some ⟨W.heap.size, 0, none⟩) 2 2 [(clAdd 0 1 0 3 true), (clAsk 1 1 1 2 true)] _ (lin_two hT rfl rfl histC) true (by
    constructor
    · intro _
      exact ⟨[⟨1, -1, 0⟩], (add_ask isV1 (by decide) (by decide) _).1.2 ⟨by decide, rfl⟩⟩
    · intro _
      rfl)
  refine h.mono ?_
  rintro e w' ⟨he, hb⟩
  exact ⟨he, ((Below.refl W.heap.size W).alloc (Nat.le_refl _) _).trans (hb.mono (by rw [World.size_alloc]; omega))⟩

theorem histD : HistIn [(clAdd 0 1 0 3 true), (clAsk 1 1 4 5 false)] := hist_two (by decide) (by decide) (by decide) ⟨by decide, by decide, by decide, by decide⟩ ⟨by decide, by decide, by decide, by decide⟩
theorem ordD (W : World) (hT : Tab W) : Calls Tryz.prog 14 #[.slice none 0 0, .slice (some ⟨W.heap.size, 0, none⟩) 2 2] (W.alloc (.cells #[.int .i64 0, .int .i64 11, .int .i64 1, .int .i64 0, .int .u64 0, .int .i64 0, .int .i64 0, .int .i64 3, .int .i64 0, .bool true, .int .i64 0, .int .u64 0, .slice none 0 0, .int .i64 1, .int .i64 13, .int .i64 1, .int .i64 0, .int .u64 0, .int .i64 0, .int .i64 4, .int .i64 5, .int .i64 0, .bool false, .int .i64 0, .int .u64 0, .slice none 0 0] 43)) fun e w' => e = .returned (.bool false) ∧ Below W.heap.size W w' := by
  have h := order_says none 0 0 [] (some ⟨W.heap.size, 0, none⟩) 2 2 [(clAdd 0 1 0 3 true), (clAsk 1 1 4 5 false)] _ (lin_two hT rfl rfl histD) false (by
    constructor
    · intro h
      cases h
    · rintro ⟨g', hg⟩
      exact absurd ((add_ask isV1 (by decide) (by decide) _).1.1 hg).1 (by decide))
  refine h.mono ?_
  rintro e w' ⟨he, hb⟩
  exact ⟨he, ((Below.refl W.heap.size W).alloc (Nat.le_refl _) _).trans (hb.mono (by rw [World.size_alloc]; omega))⟩

theorem histE : HistIn [(clAdd 0 1 0 3 true), (clAsk 1 1 4 5 true)] := hist_two (by decide) (by decide) (by decide) ⟨by decide, by decide, by decide, by decide⟩ ⟨by decide, by decide, by decide, by decide⟩
theorem ordE (W : World) (hT : Tab W) : Calls Tryz.prog 14 #[.slice none 0 0, .slice (some ⟨W.heap.size, 0, none⟩) 2 2] (W.alloc (.cells #[.int .i64 0, .int .i64 11, .int .i64 1, .int .i64 0, .int .u64 0, .int .i64 0, .int .i64 0, .int .i64 3, .int .i64 0, .bool true, .int .i64 0, .int .u64 0, .slice none 0 0, .int .i64 1, .int .i64 13, .int .i64 1, .int .i64 0, .int .u64 0, .int .i64 0, .int .i64 4, .int .i64 5, .int .i64 0, .bool true, .int .i64 0, .int .u64 0, .slice none 0 0] 43)) fun e w' => e = .returned (.bool true) ∧ Below W.heap.size W w' := by
  have h := order_says none 0 0 [] (some ⟨W.heap.size, 0, none⟩) 2 2 [(clAdd 0 1 0 3 true), (clAsk 1 1 4 5 true)] _ (lin_two hT rfl rfl histE) true (by
    constructor
    · intro _
      exact ⟨[⟨1, -1, 0⟩], (add_ask isV1 (by decide) (by decide) _).1.2 ⟨by decide, rfl⟩⟩
    · intro _
      rfl)
  refine h.mono ?_
  rintro e w' ⟨he, hb⟩
  exact ⟨he, ((Below.refl W.heap.size W).alloc (Nat.le_refl _) _).trans (hb.mono (by rw [World.size_alloc]; omega))⟩

theorem endsB (W : World) (hT : Tab W) : Calls Tryz.prog 11 #[.slice none 0 0, .slice (some ⟨W.heap.size, 0, none⟩) 2 2] (W.alloc (.cells #[.int .i64 0, .int .i64 11, .int .i64 1, .int .i64 0, .int .u64 0, .int .i64 0, .int .i64 0, .int .i64 3, .int .i64 0, .bool true, .int .i64 0, .int .u64 0, .slice none 0 0, .int .i64 1, .int .i64 13, .int .i64 1, .int .i64 0, .int .u64 0, .int .i64 0, .int .i64 1, .int .i64 2, .int .i64 0, .bool false, .int .i64 0, .int .u64 0, .slice none 0 0] 43)) fun e w' => ∃ bb bo d A c, e = .returned (.slice (some ⟨bb, bo, none⟩) 1 d) ∧ w'.cell? ⟨bb, bo, none⟩ = some (.slice A 1 c) ∧ Below W.heap.size W w' := by
  refine (ends_any none 0 0 [] (some ⟨W.heap.size, 0, none⟩) 2 2 [(clAdd 0 1 0 3 true), (clAsk 1 1 1 2 false)] _ (lin_two hT rfl rfl histB)).mono ?_
  rintro e w' ⟨B, d, ys, rfl, hgr, hs, hm, hb⟩
  have hm2 : ∀ g', g' ∈ ys.map GSl.l ↔ g' = [⟨1, -1, 0⟩] := fun g' => by
    rw [hm g', (add_ask isV1 (by decide) (by decide) _).1]
    exact ⟨fun h => h.2, fun h => ⟨by decide, h⟩⟩
  have hone : ys.map GSl.l = [[⟨1, -1, 0⟩]] := rises_ext hs (List.pairwise_singleton _ _) (fun g' => by rw [hm2 g', List.mem_singleton])
  obtain ⟨y, rfl, hy⟩ : ∃ y, ys = [y] ∧ y.l = [⟨1, -1, 0⟩] := by
    rcases ys with _ | ⟨y, _ | ⟨z, r⟩⟩
    · simp at hone
    · exact ⟨y, rfl, by simpa using hone⟩
    · simp at hone
  obtain ⟨bb, bo, rfl, hc⟩ := hgr.cell (j := 0) (x := y) rfl
  rw [hy] at hc
  exact ⟨bb, bo, d, y.A, y.c, rfl, hc, ((Below.refl W.heap.size W).alloc (Nat.le_refl _) _).trans (hb.mono (by rw [World.size_alloc]; omega))⟩
theorem ordN (W : World) (hT : Tab W) : Calls Tryz.prog 14 #[.slice none 0 0, .slice none 0 0] W fun e w' => e = .returned (.bool true) ∧ Below W.heap.size W w' :=
  order_says none 0 0 [] none 0 0 [] W ⟨rfl, rfl, ⟨by simp, by simp, by simp⟩, fun i j a b _ h => (by simp at h), by simp, ⟨fun a h => (by cases h), fun h => (by simp at h)⟩, fun a h => (by cases h), hT, ⟨fun j b h => (by simp at h), by simp, fun c h => (by cases h)⟩⟩ true ⟨fun _ => ⟨[], (no_calls [] []).2 rfl⟩, fun _ => rfl⟩

theorem five_box (w : World) (a b c d e : Cl) : ∀ W : World, Below (((((w.alloc (bx a)).alloc (bx b)).alloc (bx c)).alloc (bx d)).alloc (bx e)).heap.size (((((w.alloc (bx a)).alloc (bx b)).alloc (bx c)).alloc (bx d)).alloc (bx e)) W → At W w.heap.size 0 a ∧ At W (w.heap.size + 1) 0 b ∧ At W (w.heap.size + 2) 0 c ∧ At W (w.heap.size + 3) 0 d ∧ At W (w.heap.size + 4) 0 e ∧ Below w.heap.size w W := fun W h => by
  have n1 := at_box w a
  have n2 := at_box (w.alloc (bx a)) b
  have n3 := at_box ((w.alloc (bx a)).alloc (bx b)) c
  have n4 := at_box (((w.alloc (bx a)).alloc (bx b)).alloc (bx c)) d
  have n5 := at_box ((((w.alloc (bx a)).alloc (bx b)).alloc (bx c)).alloc (bx d)) e
  have g4 := (Below.refl ((((w.alloc (bx a)).alloc (bx b)).alloc (bx c)).alloc (bx d)).heap.size ((((w.alloc (bx a)).alloc (bx b)).alloc (bx c)).alloc (bx d))).alloc (Nat.le_refl _) (bx e)
  have g3 := ((Below.refl (((w.alloc (bx a)).alloc (bx b)).alloc (bx c)).heap.size (((w.alloc (bx a)).alloc (bx b)).alloc (bx c))).alloc (Nat.le_refl _) (bx d)).trans (g4.mono (by simp only [World.size_alloc]; omega))
  have g2 := ((Below.refl ((w.alloc (bx a)).alloc (bx b)).heap.size ((w.alloc (bx a)).alloc (bx b))).alloc (Nat.le_refl _) (bx c)).trans (g3.mono (by simp only [World.size_alloc]; omega))
  have g1 := ((Below.refl (w.alloc (bx a)).heap.size (w.alloc (bx a))).alloc (Nat.le_refl _) (bx b)).trans (g2.mono (by simp only [World.size_alloc]; omega))
  have g0 := ((Below.refl w.heap.size w).alloc (Nat.le_refl _) (bx a)).trans (g1.mono (by simp only [World.size_alloc]; omega))
  simp only [World.size_alloc, Nat.add_assoc, Nat.reduceAdd] at n2 n3 n4 n5
  exact ⟨(n1.below g1 (Nat.le_refl _)).below h (Nat.le_refl _), (n2.below g2 (Nat.le_refl _)).below h (Nat.le_refl _), (n3.below g3 (Nat.le_refl _)).below h (Nat.le_refl _), (n4.below g4 (Nat.le_refl _)).below h (Nat.le_refl _), n5.below h (Nat.le_refl _), g0.trans (h.mono (by simp only [World.size_alloc]; omega))⟩

def FA (n : Nat) (W : World) : Prop := W.cell? ⟨n, 0, none⟩ = some (.int .i64 0) ∧ W.cell? ⟨n, 1, none⟩ = some (.int .i64 11) ∧ W.cell? ⟨n, 2, none⟩ = some (.int .i64 1) ∧ W.cell? ⟨n, 3, none⟩ = some (.int .i64 0) ∧ W.cell? ⟨n, 4, none⟩ = some (.int .u64 0) ∧ W.cell? ⟨n, 5, none⟩ = some (.int .i64 0) ∧ W.cell? ⟨n, 6, none⟩ = some (.int .i64 0) ∧ W.cell? ⟨n, 7, none⟩ = some (.int .i64 3) ∧ W.cell? ⟨n, 8, none⟩ = some (.int .i64 0) ∧ W.cell? ⟨n, 9, none⟩ = some (.bool true) ∧ W.cell? ⟨n, 10, none⟩ = some (.int .i64 0) ∧ W.cell? ⟨n, 11, none⟩ = some (.int .u64 0) ∧ W.cell? ⟨n, 12, none⟩ = some (.slice none 0 0)

def FB (n : Nat) (W : World) : Prop := W.cell? ⟨n + 1, 0, none⟩ = some (.int .i64 1) ∧ W.cell? ⟨n + 1, 1, none⟩ = some (.int .i64 13) ∧ W.cell? ⟨n + 1, 2, none⟩ = some (.int .i64 1) ∧ W.cell? ⟨n + 1, 3, none⟩ = some (.int .i64 0) ∧ W.cell? ⟨n + 1, 4, none⟩ = some (.int .u64 0) ∧ W.cell? ⟨n + 1, 5, none⟩ = some (.int .i64 0) ∧ W.cell? ⟨n + 1, 6, none⟩ = some (.int .i64 1) ∧ W.cell? ⟨n + 1, 7, none⟩ = some (.int .i64 2) ∧ W.cell? ⟨n + 1, 8, none⟩ = some (.int .i64 0) ∧ W.cell? ⟨n + 1, 9, none⟩ = some (.bool false) ∧ W.cell? ⟨n + 1, 10, none⟩ = some (.int .i64 0) ∧ W.cell? ⟨n + 1, 11, none⟩ = some (.int .u64 0) ∧ W.cell? ⟨n + 1, 12, none⟩ = some (.slice none 0 0)

def FC (n : Nat) (W : World) : Prop := W.cell? ⟨n + 2, 0, none⟩ = some (.int .i64 1) ∧ W.cell? ⟨n + 2, 1, none⟩ = some (.int .i64 13) ∧ W.cell? ⟨n + 2, 2, none⟩ = some (.int .i64 1) ∧ W.cell? ⟨n + 2, 3, none⟩ = some (.int .i64 0) ∧ W.cell? ⟨n + 2, 4, none⟩ = some (.int .u64 0) ∧ W.cell? ⟨n + 2, 5, none⟩ = some (.int .i64 0) ∧ W.cell? ⟨n + 2, 6, none⟩ = some (.int .i64 1) ∧ W.cell? ⟨n + 2, 7, none⟩ = some (.int .i64 2) ∧ W.cell? ⟨n + 2, 8, none⟩ = some (.int .i64 0) ∧ W.cell? ⟨n + 2, 9, none⟩ = some (.bool true) ∧ W.cell? ⟨n + 2, 10, none⟩ = some (.int .i64 0) ∧ W.cell? ⟨n + 2, 11, none⟩ = some (.int .u64 0) ∧ W.cell? ⟨n + 2, 12, none⟩ = some (.slice none 0 0)

def FD (n : Nat) (W : World) : Prop := W.cell? ⟨n + 3, 0, none⟩ = some (.int .i64 1) ∧ W.cell? ⟨n + 3, 1, none⟩ = some (.int .i64 13) ∧ W.cell? ⟨n + 3, 2, none⟩ = some (.int .i64 1) ∧ W.cell? ⟨n + 3, 3, none⟩ = some (.int .i64 0) ∧ W.cell? ⟨n + 3, 4, none⟩ = some (.int .u64 0) ∧ W.cell? ⟨n + 3, 5, none⟩ = some (.int .i64 0) ∧ W.cell? ⟨n + 3, 6, none⟩ = some (.int .i64 4) ∧ W.cell? ⟨n + 3, 7, none⟩ = some (.int .i64 5) ∧ W.cell? ⟨n + 3, 8, none⟩ = some (.int .i64 0) ∧ W.cell? ⟨n + 3, 9, none⟩ = some (.bool false) ∧ W.cell? ⟨n + 3, 10, none⟩ = some (.int .i64 0) ∧ W.cell? ⟨n + 3, 11, none⟩ = some (.int .u64 0) ∧ W.cell? ⟨n + 3, 12, none⟩ = some (.slice none 0 0)

def FE (n : Nat) (W : World) : Prop := W.cell? ⟨n + 4, 0, none⟩ = some (.int .i64 1) ∧ W.cell? ⟨n + 4, 1, none⟩ = some (.int .i64 13) ∧ W.cell? ⟨n + 4, 2, none⟩ = some (.int .i64 1) ∧ W.cell? ⟨n + 4, 3, none⟩ = some (.int .i64 0) ∧ W.cell? ⟨n + 4, 4, none⟩ = some (.int .u64 0) ∧ W.cell? ⟨n + 4, 5, none⟩ = some (.int .i64 0) ∧ W.cell? ⟨n + 4, 6, none⟩ = some (.int .i64 4) ∧ W.cell? ⟨n + 4, 7, none⟩ = some (.int .i64 5) ∧ W.cell? ⟨n + 4, 8, none⟩ = some (.int .i64 0) ∧ W.cell? ⟨n + 4, 9, none⟩ = some (.bool true) ∧ W.cell? ⟨n + 4, 10, none⟩ = some (.int .i64 0) ∧ W.cell? ⟨n + 4, 11, none⟩ = some (.int .u64 0) ∧ W.cell? ⟨n + 4, 12, none⟩ = some (.slice none 0 0)

theorem fiveAt (w W : World) (h : Below ((((((w.alloc (.cells #[.int .i64 0, .int .i64 11, .int .i64 1, .int .i64 0, .int .u64 0, .int .i64 0, .int .i64 0, .int .i64 3, .int .i64 0, .bool true, .int .i64 0, .int .u64 0, .slice none 0 0] 43)).alloc (.cells #[.int .i64 1, .int .i64 13, .int .i64 1, .int .i64 0, .int .u64 0, .int .i64 0, .int .i64 1, .int .i64 2, .int .i64 0, .bool false, .int .i64 0, .int .u64 0, .slice none 0 0] 43)).alloc (.cells #[.int .i64 1, .int .i64 13, .int .i64 1, .int .i64 0, .int .u64 0, .int .i64 0, .int .i64 1, .int .i64 2, .int .i64 0, .bool true, .int .i64 0, .int .u64 0, .slice none 0 0] 43)).alloc (.cells #[.int .i64 1, .int .i64 13, .int .i64 1, .int .i64 0, .int .u64 0, .int .i64 0, .int .i64 4, .int .i64 5, .int .i64 0, .bool false, .int .i64 0, .int .u64 0, .slice none 0 0] 43)).alloc (.cells #[.int .i64 1, .int .i64 13, .int .i64 1, .int .i64 0, .int .u64 0, .int .i64 0, .int .i64 4, .int .i64 5, .int .i64 0, .bool true, .int .i64 0, .int .u64 0, .slice none 0 0] 43))).heap.size ((((((w.alloc (.cells #[.int .i64 0, .int .i64 11, .int .i64 1, .int .i64 0, .int .u64 0, .int .i64 0, .int .i64 0, .int .i64 3, .int .i64 0, .bool true, .int .i64 0, .int .u64 0, .slice none 0 0] 43)).alloc (.cells #[.int .i64 1, .int .i64 13, .int .i64 1, .int .i64 0, .int .u64 0, .int .i64 0, .int .i64 1, .int .i64 2, .int .i64 0, .bool false, .int .i64 0, .int .u64 0, .slice none 0 0] 43)).alloc (.cells #[.int .i64 1, .int .i64 13, .int .i64 1, .int .i64 0, .int .u64 0, .int .i64 0, .int .i64 1, .int .i64 2, .int .i64 0, .bool true, .int .i64 0, .int .u64 0, .slice none 0 0] 43)).alloc (.cells #[.int .i64 1, .int .i64 13, .int .i64 1, .int .i64 0, .int .u64 0, .int .i64 0, .int .i64 4, .int .i64 5, .int .i64 0, .bool false, .int .i64 0, .int .u64 0, .slice none 0 0] 43)).alloc (.cells #[.int .i64 1, .int .i64 13, .int .i64 1, .int .i64 0, .int .u64 0, .int .i64 0, .int .i64 4, .int .i64 5, .int .i64 0, .bool true, .int .i64 0, .int .u64 0, .slice none 0 0] 43))) W) : FA w.heap.size W ∧ FB w.heap.size W ∧ FC w.heap.size W ∧ FD w.heap.size W ∧ FE w.heap.size W ∧ Below w.heap.size w W := five_box w (clAdd 0 1 0 3 true) (clAsk 1 1 1 2 false) (clAsk 1 1 1 2 true) (clAsk 1 1 4 5 false) (clAsk 1 1 4 5 true) W h

set_option maxHeartbeats 16000000 in
theorem shown_any (w : World) (hT : Tab w) : Calls Tryz.prog 8 #[] w fun e w' => e = .returned (.bool true) ∧ Below w.heap.size w w' := by
  have B5 := Lib.hid (fiveAt w _ (Below.refl ((((((w.alloc (.cells #[.int .i64 0, .int .i64 11, .int .i64 1, .int .i64 0, .int .u64 0, .int .i64 0, .int .i64 0, .int .i64 3, .int .i64 0, .bool true, .int .i64 0, .int .u64 0, .slice none 0 0] 43)).alloc (.cells #[.int .i64 1, .int .i64 13, .int .i64 1, .int .i64 0, .int .u64 0, .int .i64 0, .int .i64 1, .int .i64 2, .int .i64 0, .bool false, .int .i64 0, .int .u64 0, .slice none 0 0] 43)).alloc (.cells #[.int .i64 1, .int .i64 13, .int .i64 1, .int .i64 0, .int .u64 0, .int .i64 0, .int .i64 1, .int .i64 2, .int .i64 0, .bool true, .int .i64 0, .int .u64 0, .slice none 0 0] 43)).alloc (.cells #[.int .i64 1, .int .i64 13, .int .i64 1, .int .i64 0, .int .u64 0, .int .i64 0, .int .i64 4, .int .i64 5, .int .i64 0, .bool false, .int .i64 0, .int .u64 0, .slice none 0 0] 43)).alloc (.cells #[.int .i64 1, .int .i64 13, .int .i64 1, .int .i64 0, .int .u64 0, .int .i64 0, .int .i64 4, .int .i64 5, .int .i64 0, .bool true, .int .i64 0, .int .u64 0, .slice none 0 0] 43))).heap.size ((((((w.alloc (.cells #[.int .i64 0, .int .i64 11, .int .i64 1, .int .i64 0, .int .u64 0, .int .i64 0, .int .i64 0, .int .i64 3, .int .i64 0, .bool true, .int .i64 0, .int .u64 0, .slice none 0 0] 43)).alloc (.cells #[.int .i64 1, .int .i64 13, .int .i64 1, .int .i64 0, .int .u64 0, .int .i64 0, .int .i64 1, .int .i64 2, .int .i64 0, .bool false, .int .i64 0, .int .u64 0, .slice none 0 0] 43)).alloc (.cells #[.int .i64 1, .int .i64 13, .int .i64 1, .int .i64 0, .int .u64 0, .int .i64 0, .int .i64 1, .int .i64 2, .int .i64 0, .bool true, .int .i64 0, .int .u64 0, .slice none 0 0] 43)).alloc (.cells #[.int .i64 1, .int .i64 13, .int .i64 1, .int .i64 0, .int .u64 0, .int .i64 0, .int .i64 4, .int .i64 5, .int .i64 0, .bool false, .int .i64 0, .int .u64 0, .slice none 0 0] 43)).alloc (.cells #[.int .i64 1, .int .i64 13, .int .i64 1, .int .i64 0, .int .u64 0, .int .i64 0, .int .i64 4, .int .i64 5, .int .i64 0, .bool true, .int .i64 0, .int .u64 0, .slice none 0 0] 43))))).2.2.2.2.2
  have K := Lib.hid (fiveAt w)
  have T5 := Lib.hid (hT.below B5.out (Nat.le_refl _))
  clear hT
  go_enter Tryz.func8, Tryz.ntmps8
  go_upto_region 11 with (fail)
  have HS : Hid (w.heap.size ≤ ((((((w.alloc (.cells #[.int .i64 0, .int .i64 11, .int .i64 1, .int .i64 0, .int .u64 0, .int .i64 0, .int .i64 0, .int .i64 3, .int .i64 0, .bool true, .int .i64 0, .int .u64 0, .slice none 0 0] 43)).alloc (.cells #[.int .i64 1, .int .i64 13, .int .i64 1, .int .i64 0, .int .u64 0, .int .i64 0, .int .i64 1, .int .i64 2, .int .i64 0, .bool false, .int .i64 0, .int .u64 0, .slice none 0 0] 43)).alloc (.cells #[.int .i64 1, .int .i64 13, .int .i64 1, .int .i64 0, .int .u64 0, .int .i64 0, .int .i64 1, .int .i64 2, .int .i64 0, .bool true, .int .i64 0, .int .u64 0, .slice none 0 0] 43)).alloc (.cells #[.int .i64 1, .int .i64 13, .int .i64 1, .int .i64 0, .int .u64 0, .int .i64 0, .int .i64 4, .int .i64 5, .int .i64 0, .bool false, .int .i64 0, .int .u64 0, .slice none 0 0] 43)).alloc (.cells #[.int .i64 1, .int .i64 13, .int .i64 1, .int .i64 0, .int .u64 0, .int .i64 0, .int .i64 4, .int .i64 5, .int .i64 0, .bool true, .int .i64 0, .int .u64 0, .slice none 0 0] 43))).heap.size) := Lib.hid B5.out.size
  generalize (((((w.alloc (.cells #[.int .i64 0, .int .i64 11, .int .i64 1, .int .i64 0, .int .u64 0, .int .i64 0, .int .i64 0, .int .i64 3, .int .i64 0, .bool true, .int .i64 0, .int .u64 0, .slice none 0 0] 43)).alloc (.cells #[.int .i64 1, .int .i64 13, .int .i64 1, .int .i64 0, .int .u64 0, .int .i64 0, .int .i64 1, .int .i64 2, .int .i64 0, .bool false, .int .i64 0, .int .u64 0, .slice none 0 0] 43)).alloc (.cells #[.int .i64 1, .int .i64 13, .int .i64 1, .int .i64 0, .int .u64 0, .int .i64 0, .int .i64 1, .int .i64 2, .int .i64 0, .bool true, .int .i64 0, .int .u64 0, .slice none 0 0] 43)).alloc (.cells #[.int .i64 1, .int .i64 13, .int .i64 1, .int .i64 0, .int .u64 0, .int .i64 0, .int .i64 4, .int .i64 5, .int .i64 0, .bool false, .int .i64 0, .int .u64 0, .slice none 0 0] 43)).alloc (.cells #[.int .i64 1, .int .i64 13, .int .i64 1, .int .i64 0, .int .u64 0, .int .i64 0, .int .i64 4, .int .i64 5, .int .i64 0, .bool true, .int .i64 0, .int .u64 0, .slice none 0 0] 43)) = w5 at *
  have KT : Hid (∀ W, Below w5.heap.size w5 W → Tab W) := Lib.hid fun W h => T5.out.below h (Nat.le_refl _)
  have H5 := Lib.hid (Below.refl w5.heap.size w5)
  obtain ⟨a0, a1, a2, a3, a4, a5, a6, a7, a8, a9, a10, a11, a12⟩ := (K.out _ H5.out).1
  obtain ⟨b0, b1, b2, b3, b4, b5, b6, b7, b8, b9, b10, b11, b12⟩ := (K.out _ H5.out).2.1
  go_wp2_with (first
    | (go_at_call 11; ((with_reducible refine (endsB w5 T5.out).mono ?_); rintro e w6 ⟨bb, bo, d, Ae, c, rfl, hc, hb⟩; have H6 := Lib.hid (hb); have T6 := Lib.hid (KT.out _ H6.out); have L6 := Lib.hid (fun (W : World) (h : Below w6.heap.size w6 W) => cellL hc h); clear hc; clear a0 a1 a2 a3 a4 a5 a6 a7 a8 a9 a10 a11 a12; clear b0 b1 b2 b3 b4 b5 b6 b7 b8 b9 b10 b11 b12; obtain ⟨a0, a1, a2, a3, a4, a5, a6, a7, a8, a9, a10, a11, a12⟩ := (K.out _ H6.out).1; obtain ⟨b0, b1, b2, b3, b4, b5, b6, b7, b8, b9, b10, b11, b12⟩ := (K.out _ H6.out).2.1; clear hb))
    | (go_at_call 14; ((with_reducible refine (ordB w6 T6.out).mono ?_); rintro e w7 ⟨rfl, hb⟩; have H7 := Lib.hid (H6.out.trans (hb.mono H6.out.size)); have T7 := Lib.hid (KT.out _ H7.out); have P7 := Lib.hid (hb); clear a0 a1 a2 a3 a4 a5 a6 a7 a8 a9 a10 a11 a12; clear b0 b1 b2 b3 b4 b5 b6 b7 b8 b9 b10 b11 b12; obtain ⟨a0, a1, a2, a3, a4, a5, a6, a7, a8, a9, a10, a11, a12⟩ := (K.out _ H7.out).1; obtain ⟨c0, c1, c2, c3, c4, c5, c6, c7, c8, c9, c10, c11, c12⟩ := (K.out _ H7.out).2.2.1; clear hb))
    | (go_at_call 14; ((with_reducible refine (ordC w7 T7.out).mono ?_); rintro e w8 ⟨rfl, hb⟩; have H8 := Lib.hid (H7.out.trans (hb.mono H7.out.size)); have T8 := Lib.hid (KT.out _ H8.out); have P8 := Lib.hid (P7.out.trans (hb.mono P7.out.size)); clear a0 a1 a2 a3 a4 a5 a6 a7 a8 a9 a10 a11 a12; clear c0 c1 c2 c3 c4 c5 c6 c7 c8 c9 c10 c11 c12; obtain ⟨a0, a1, a2, a3, a4, a5, a6, a7, a8, a9, a10, a11, a12⟩ := (K.out _ H8.out).1; obtain ⟨d0, d1, d2, d3, d4, d5, d6, d7, d8, d9, d10, d11, d12⟩ := (K.out _ H8.out).2.2.2.1; clear hb))
    | (go_at_call 14; ((with_reducible refine (ordD w8 T8.out).mono ?_); rintro e w9 ⟨rfl, hb⟩; have H9 := Lib.hid (H8.out.trans (hb.mono H8.out.size)); have T9 := Lib.hid (KT.out _ H9.out); have P9 := Lib.hid (P8.out.trans (hb.mono P8.out.size)); clear a0 a1 a2 a3 a4 a5 a6 a7 a8 a9 a10 a11 a12; clear d0 d1 d2 d3 d4 d5 d6 d7 d8 d9 d10 d11 d12; obtain ⟨a0, a1, a2, a3, a4, a5, a6, a7, a8, a9, a10, a11, a12⟩ := (K.out _ H9.out).1; obtain ⟨e0, e1, e2, e3, e4, e5, e6, e7, e8, e9, e10, e11, e12⟩ := (K.out _ H9.out).2.2.2.2.1; clear hb))
    | (go_at_call 14; ((with_reducible refine (ordE w9 T9.out).mono ?_); rintro e w10 ⟨rfl, hb⟩; have H10 := Lib.hid (H9.out.trans (hb.mono H9.out.size)); have T10 := Lib.hid (KT.out _ H10.out); have P10 := Lib.hid (P9.out.trans (hb.mono P9.out.size)); have z0 := L6.out _ P10.out; clear a0 a1 a2 a3 a4 a5 a6 a7 a8 a9 a10 a11 a12; clear e0 e1 e2 e3 e4 e5 e6 e7 e8 e9 e10 e11 e12; clear hb))
    | (go_at_call 14; ((with_reducible refine (ordN w10 T10.out).mono ?_); rintro e w11 ⟨rfl, hb⟩; have H11 := Lib.hid (H10.out.trans (hb.mono H10.out.size)); have T11 := Lib.hid (KT.out _ H11.out); clear hb)))

  go_ret
  exact ⟨rfl, B5.out.trans (H11.out.mono B5.out.size)⟩
end Go.Proofs.YtpdfmfkoopdfgaaGreatDoor
end
section
namespace Go.Proofs.YtpdfmfkoopdfgaaGreatDoor
set_option maxRecDepth 100000
open Go.RowKit Aid Gr Hs LinP HeapP

theorem four_box (w : World) (a b c d : Cl) : ∀ W : World, Below ((((w.alloc (bx a)).alloc (bx b)).alloc (bx c)).alloc (bx d)).heap.size ((((w.alloc (bx a)).alloc (bx b)).alloc (bx c)).alloc (bx d)) W → At W w.heap.size 0 a ∧ At W (w.heap.size + 1) 0 b ∧ At W (w.heap.size + 2) 0 c ∧ At W (w.heap.size + 3) 0 d ∧ Below w.heap.size w W := fun W h => by
  have n1 := at_box w a
  have n2 := at_box (w.alloc (bx a)) b
  have n3 := at_box ((w.alloc (bx a)).alloc (bx b)) c
  have n4 := at_box (((w.alloc (bx a)).alloc (bx b)).alloc (bx c)) d
  have g3 := (Below.refl (((w.alloc (bx a)).alloc (bx b)).alloc (bx c)).heap.size (((w.alloc (bx a)).alloc (bx b)).alloc (bx c))).alloc (Nat.le_refl _) (bx d)
  have g2 := ((Below.refl ((w.alloc (bx a)).alloc (bx b)).heap.size ((w.alloc (bx a)).alloc (bx b))).alloc (Nat.le_refl _) (bx c)).trans (g3.mono (by simp only [World.size_alloc]; omega))
  have g1 := ((Below.refl (w.alloc (bx a)).heap.size (w.alloc (bx a))).alloc (Nat.le_refl _) (bx b)).trans (g2.mono (by simp only [World.size_alloc]; omega))
  have g0 := ((Below.refl w.heap.size w).alloc (Nat.le_refl _) (bx a)).trans (g1.mono (by simp only [World.size_alloc]; omega))
  simp only [World.size_alloc, Nat.add_assoc, Nat.reduceAdd] at n2 n3 n4
  exact ⟨(n1.below g1 (Nat.le_refl _)).below h (Nat.le_refl _), (n2.below g2 (Nat.le_refl _)).below h (Nat.le_refl _), (n3.below g3 (Nat.le_refl _)).below h (Nat.le_refl _), n4.below h (Nat.le_refl _), g0.trans (h.mono (by simp only [World.size_alloc]; omega))⟩
theorem may_add {me u fr tt : Int} {is : Bool} (h1 : 0 ≤ me) (h2 : me < 64) (h3 : 0 ≤ fr) (h4 : fr < tt) : mayB (clAdd me u fr tt is) = true := by
  unfold mayB clAdd
  exact decide_eq_true ⟨by simp, by simp, h1, h2, by simp, h3, .inr h4⟩
theorem may_ask {me u fr tt : Int} {is : Bool} (h1 : 0 ≤ me) (h2 : me < 64) (h3 : 0 ≤ fr) (h4 : fr < tt) : mayB (clAsk me u fr tt is) = true := by
  unfold mayB clAsk
  exact decide_eq_true ⟨by simp, by simp, h1, h2, by simp, h3, .inr h4⟩
theorem fits_two {p q : Cl} (h1 : p.fr < q.fr) (h2 : p.era = q.era) (h3 : p.me ≠ q.me) : fitsB p q = true := by
  unfold fitsB
  exact decide_eq_true ⟨h1, by omega, fun _ => by omega, fun _ => .inl h3⟩

def QA (u a t c y : Int) (n : Nat) (W : World) : Prop := W.cell? ⟨n, 0, none⟩ = some (.int .i64 0) ∧ W.cell? ⟨n, 1, none⟩ = some (.int .i64 11) ∧ W.cell? ⟨n, 2, none⟩ = some (.int .i64 u) ∧ W.cell? ⟨n, 3, none⟩ = some (.int .i64 0) ∧ W.cell? ⟨n, 4, none⟩ = some (.int .u64 0) ∧ W.cell? ⟨n, 5, none⟩ = some (.int .i64 0) ∧ W.cell? ⟨n, 6, none⟩ = some (.int .i64 a) ∧ W.cell? ⟨n, 7, none⟩ = some (.int .i64 t) ∧ W.cell? ⟨n, 8, none⟩ = some (.int .i64 0) ∧ W.cell? ⟨n, 9, none⟩ = some (.bool true) ∧ W.cell? ⟨n, 10, none⟩ = some (.int .i64 0) ∧ W.cell? ⟨n, 11, none⟩ = some (.int .u64 0) ∧ W.cell? ⟨n, 12, none⟩ = some (.slice none 0 0)

def QY (u a t c y : Int) (n : Nat) (W : World) : Prop := W.cell? ⟨n, 0, none⟩ = some (.int .i64 1) ∧ W.cell? ⟨n, 1, none⟩ = some (.int .i64 13) ∧ W.cell? ⟨n, 2, none⟩ = some (.int .i64 u) ∧ W.cell? ⟨n, 3, none⟩ = some (.int .i64 0) ∧ W.cell? ⟨n, 4, none⟩ = some (.int .u64 0) ∧ W.cell? ⟨n, 5, none⟩ = some (.int .i64 0) ∧ W.cell? ⟨n, 6, none⟩ = some (.int .i64 c) ∧ W.cell? ⟨n, 7, none⟩ = some (.int .i64 y) ∧ W.cell? ⟨n, 8, none⟩ = some (.int .i64 0) ∧ W.cell? ⟨n, 9, none⟩ = some (.bool true) ∧ W.cell? ⟨n, 10, none⟩ = some (.int .i64 0) ∧ W.cell? ⟨n, 11, none⟩ = some (.int .u64 0) ∧ W.cell? ⟨n, 12, none⟩ = some (.slice none 0 0)

def QM (u a t c y : Int) (n : Nat) (W : World) : Prop := W.cell? ⟨n, 0, none⟩ = some (.int .i64 1) ∧ W.cell? ⟨n, 1, none⟩ = some (.int .i64 13) ∧ W.cell? ⟨n, 2, none⟩ = some (.int .i64 u) ∧ W.cell? ⟨n, 3, none⟩ = some (.int .i64 0) ∧ W.cell? ⟨n, 4, none⟩ = some (.int .u64 0) ∧ W.cell? ⟨n, 5, none⟩ = some (.int .i64 0) ∧ W.cell? ⟨n, 6, none⟩ = some (.int .i64 c) ∧ W.cell? ⟨n, 7, none⟩ = some (.int .i64 y) ∧ W.cell? ⟨n, 8, none⟩ = some (.int .i64 0) ∧ W.cell? ⟨n, 9, none⟩ = some (.bool false) ∧ W.cell? ⟨n, 10, none⟩ = some (.int .i64 0) ∧ W.cell? ⟨n, 11, none⟩ = some (.int .u64 0) ∧ W.cell? ⟨n, 12, none⟩ = some (.slice none 0 0)

def QL (u a t c y : Int) (n : Nat) (W : World) : Prop := W.cell? ⟨n, 0, none⟩ = some (.int .i64 1) ∧ W.cell? ⟨n, 1, none⟩ = some (.int .i64 11) ∧ W.cell? ⟨n, 2, none⟩ = some (.int .i64 u) ∧ W.cell? ⟨n, 3, none⟩ = some (.int .i64 0) ∧ W.cell? ⟨n, 4, none⟩ = some (.int .u64 0) ∧ W.cell? ⟨n, 5, none⟩ = some (.int .i64 0) ∧ W.cell? ⟨n, 6, none⟩ = some (.int .i64 c) ∧ W.cell? ⟨n, 7, none⟩ = some (.int .i64 y) ∧ W.cell? ⟨n, 8, none⟩ = some (.int .i64 0) ∧ W.cell? ⟨n, 9, none⟩ = some (.bool false) ∧ W.cell? ⟨n, 10, none⟩ = some (.int .i64 0) ∧ W.cell? ⟨n, 11, none⟩ = some (.int .u64 0) ∧ W.cell? ⟨n, 12, none⟩ = some (.slice none 0 0)

theorem fourAt (u a t c y : Int) (w1 W : World) (h : Below (((((w1.alloc (.cells #[.int .i64 0, .int .i64 11, .int .i64 u, .int .i64 0, .int .u64 0, .int .i64 0, .int .i64 a, .int .i64 t, .int .i64 0, .bool true, .int .i64 0, .int .u64 0, .slice none 0 0] 43)).alloc (.cells #[.int .i64 1, .int .i64 13, .int .i64 u, .int .i64 0, .int .u64 0, .int .i64 0, .int .i64 c, .int .i64 y, .int .i64 0, .bool true, .int .i64 0, .int .u64 0, .slice none 0 0] 43)).alloc (.cells #[.int .i64 1, .int .i64 13, .int .i64 u, .int .i64 0, .int .u64 0, .int .i64 0, .int .i64 c, .int .i64 y, .int .i64 0, .bool false, .int .i64 0, .int .u64 0, .slice none 0 0] 43)).alloc (.cells #[.int .i64 1, .int .i64 11, .int .i64 u, .int .i64 0, .int .u64 0, .int .i64 0, .int .i64 c, .int .i64 y, .int .i64 0, .bool false, .int .i64 0, .int .u64 0, .slice none 0 0] 43))).heap.size (((((w1.alloc (.cells #[.int .i64 0, .int .i64 11, .int .i64 u, .int .i64 0, .int .u64 0, .int .i64 0, .int .i64 a, .int .i64 t, .int .i64 0, .bool true, .int .i64 0, .int .u64 0, .slice none 0 0] 43)).alloc (.cells #[.int .i64 1, .int .i64 13, .int .i64 u, .int .i64 0, .int .u64 0, .int .i64 0, .int .i64 c, .int .i64 y, .int .i64 0, .bool true, .int .i64 0, .int .u64 0, .slice none 0 0] 43)).alloc (.cells #[.int .i64 1, .int .i64 13, .int .i64 u, .int .i64 0, .int .u64 0, .int .i64 0, .int .i64 c, .int .i64 y, .int .i64 0, .bool false, .int .i64 0, .int .u64 0, .slice none 0 0] 43)).alloc (.cells #[.int .i64 1, .int .i64 11, .int .i64 u, .int .i64 0, .int .u64 0, .int .i64 0, .int .i64 c, .int .i64 y, .int .i64 0, .bool false, .int .i64 0, .int .u64 0, .slice none 0 0] 43))) W) : QA u a t c y w1.heap.size W ∧ QY u a t c y (w1.heap.size + 1) W ∧ QM u a t c y (w1.heap.size + 2) W ∧ QL u a t c y (w1.heap.size + 3) W ∧ Below w1.heap.size w1 W := four_box w1 (clAdd 0 u a t true) (clAsk 1 u c y true) (clAsk 1 u c y false) (clAdd 1 u c y false) W h

theorem oAY (u a t c y : Int) (A : Option Addr) (W : World) (hi : LIn W none 0 [] A 2 [(clAdd 0 u a t true), (clAsk 1 u c y true)]) (hu : Gr.isV u = true) (ht : 0 ≤ t) (hy : 0 ≤ y) : Calls Tryz.prog 14 #[.slice none 0 0, .slice A 2 2] W fun e w' => e = .returned (.bool (decide (a ≤ y))) ∧ Below W.heap.size W w' := by
  refine order_says none 0 0 [] A 2 2 [(clAdd 0 u a t true), (clAsk 1 u c y true)] W hi _ ?_
  rw [decide_eq_true_iff]
  constructor
  · intro h
    exact ⟨[⟨u, -1, 0⟩], (add_ask (f := a) (t := t) (x := c) (y := y) (is := true) hu ht hy _).1.2 ⟨by simp; omega, rfl⟩⟩
  · rintro ⟨g', hg⟩
    have := ((add_ask (f := a) (t := t) (x := c) (y := y) (is := true) hu ht hy _).1.1 hg).1
    simp at this; omega

theorem oYA (u a t c y : Int) (A : Option Addr) (W : World) (hi : LIn W none 0 [] A 2 [(clAsk 1 u c y true), (clAdd 0 u a t true)]) (hu : Gr.isV u = true) (ht : 0 ≤ t) (hy : 0 ≤ y) : Calls Tryz.prog 14 #[.slice none 0 0, .slice A 2 2] W fun e w' => e = .returned (.bool (decide (a ≤ y))) ∧ Below W.heap.size W w' := by
  refine order_says none 0 0 [] A 2 2 [(clAsk 1 u c y true), (clAdd 0 u a t true)] W hi _ ?_
  rw [decide_eq_true_iff]
  constructor
  · intro h
    exact ⟨[⟨u, -1, 0⟩], (add_ask (f := a) (t := t) (x := c) (y := y) (is := true) hu ht hy _).2.2 ⟨by simp; omega, rfl⟩⟩
  · rintro ⟨g', hg⟩
    have := ((add_ask (f := a) (t := t) (x := c) (y := y) (is := true) hu ht hy _).2.1 hg).1
    simp at this; omega

theorem oAM (u a t c y : Int) (A : Option Addr) (W : World) (hi : LIn W none 0 [] A 2 [(clAdd 0 u a t true), (clAsk 1 u c y false)]) (hu : Gr.isV u = true) (ht : 0 ≤ t) (hy : 0 ≤ y) : Calls Tryz.prog 14 #[.slice none 0 0, .slice A 2 2] W fun e w' => e = .returned (.bool (decide (c ≤ t))) ∧ Below W.heap.size W w' := by
  refine order_says none 0 0 [] A 2 2 [(clAdd 0 u a t true), (clAsk 1 u c y false)] W hi _ ?_
  rw [decide_eq_true_iff]
  constructor
  · intro h
    exact ⟨[⟨u, -1, 0⟩], (add_ask (f := a) (t := t) (x := c) (y := y) (is := false) hu ht hy _).1.2 ⟨by simp; omega, rfl⟩⟩
  · rintro ⟨g', hg⟩
    have := ((add_ask (f := a) (t := t) (x := c) (y := y) (is := false) hu ht hy _).1.1 hg).1
    simp at this; omega

theorem oMA (u a t c y : Int) (A : Option Addr) (W : World) (hi : LIn W none 0 [] A 2 [(clAsk 1 u c y false), (clAdd 0 u a t true)]) (hu : Gr.isV u = true) (ht : 0 ≤ t) (hy : 0 ≤ y) : Calls Tryz.prog 14 #[.slice none 0 0, .slice A 2 2] W fun e w' => e = .returned (.bool (decide (c ≤ t))) ∧ Below W.heap.size W w' := by
  refine order_says none 0 0 [] A 2 2 [(clAsk 1 u c y false), (clAdd 0 u a t true)] W hi _ ?_
  rw [decide_eq_true_iff]
  constructor
  · intro h
    exact ⟨[⟨u, -1, 0⟩], (add_ask (f := a) (t := t) (x := c) (y := y) (is := false) hu ht hy _).2.2 ⟨by simp; omega, rfl⟩⟩
  · rintro ⟨g', hg⟩
    have := ((add_ask (f := a) (t := t) (x := c) (y := y) (is := false) hu ht hy _).2.1 hg).1
    simp at this; omega

theorem oAL (u a t c y : Int) (A : Option Addr) (W : World) (hi : LIn W none 0 [] A 2 [(clAdd 0 u a t true), (clAdd 1 u c y false)]) (hu : Gr.isV u = true) (ht : 0 ≤ t) (hy : 0 ≤ y) : Calls Tryz.prog 14 #[.slice none 0 0, .slice A 2 2] W fun e w' => e = .returned (.bool (decide (a ≤ y))) ∧ Below W.heap.size W w' := by
  refine order_says none 0 0 [] A 2 2 [(clAdd 0 u a t true), (clAdd 1 u c y false)] W hi _ ?_
  rw [decide_eq_true_iff]
  constructor
  · intro h
    exact ⟨[⟨u, -1, 0⟩], (add_also (f := a) (t := t) (x := c) (y := y) hu ht hy _).1.2 ⟨by omega, rfl⟩⟩
  · rintro ⟨g', hg⟩
    have := ((add_also (f := a) (t := t) (x := c) (y := y) hu ht hy _).1.1 hg).1
    omega

theorem oLA (u a t c y : Int) (A : Option Addr) (W : World) (hi : LIn W none 0 [] A 2 [(clAdd 1 u c y false), (clAdd 0 u a t true)]) (hu : Gr.isV u = true) (ht : 0 ≤ t) (hy : 0 ≤ y) : Calls Tryz.prog 14 #[.slice none 0 0, .slice A 2 2] W fun e w' => e = .returned (.bool (decide (a ≤ y))) ∧ Below W.heap.size W w' := by
  refine order_says none 0 0 [] A 2 2 [(clAdd 1 u c y false), (clAdd 0 u a t true)] W hi _ ?_
  rw [decide_eq_true_iff]
  constructor
  · intro h
    exact ⟨[⟨u, -1, 0⟩], (add_also (f := a) (t := t) (x := c) (y := y) hu ht hy _).2.2 ⟨by omega, rfl⟩⟩
  · rintro ⟨g', hg⟩
    have := ((add_also (f := a) (t := t) (x := c) (y := y) hu ht hy _).2.1 hg).1
    omega

theorem hAY {u a t c y : Int} (hu : -9223372036854775808 ≤ u ∧ u ≤ 9223372036854775807) (ha : 0 ≤ a) (hc : 0 ≤ c) (ht : a < t) (hy : c < y) (h : a < c) : HistIn [(clAdd 0 u a t true), (clAsk 1 u c y true)] := hist_two (may_add (by omega) (by omega) (by omega) (by omega)) (may_ask (by omega) (by omega) (by omega) (by omega)) (fits_two h rfl (by unfold clAdd clAsk; simp)) ⟨by unfold clAdd; simp, hu, by unfold clAdd; simp, by unfold clAdd; simp⟩ ⟨by unfold clAsk; simp, hu, by unfold clAsk; simp, by unfold clAsk; simp⟩
theorem hYA {u a t c y : Int} (hu : -9223372036854775808 ≤ u ∧ u ≤ 9223372036854775807) (ha : 0 ≤ a) (hc : 0 ≤ c) (ht : a < t) (hy : c < y) (h : c < a) : HistIn [(clAsk 1 u c y true), (clAdd 0 u a t true)] := hist_two (may_ask (by omega) (by omega) (by omega) (by omega)) (may_add (by omega) (by omega) (by omega) (by omega)) (fits_two h rfl (by unfold clAdd clAsk; simp)) ⟨by unfold clAsk; simp, hu, by unfold clAsk; simp, by unfold clAsk; simp⟩ ⟨by unfold clAdd; simp, hu, by unfold clAdd; simp, by unfold clAdd; simp⟩
theorem hAM {u a t c y : Int} (hu : -9223372036854775808 ≤ u ∧ u ≤ 9223372036854775807) (ha : 0 ≤ a) (hc : 0 ≤ c) (ht : a < t) (hy : c < y) (h : a < c) : HistIn [(clAdd 0 u a t true), (clAsk 1 u c y false)] := hist_two (may_add (by omega) (by omega) (by omega) (by omega)) (may_ask (by omega) (by omega) (by omega) (by omega)) (fits_two h rfl (by unfold clAdd clAsk; simp)) ⟨by unfold clAdd; simp, hu, by unfold clAdd; simp, by unfold clAdd; simp⟩ ⟨by unfold clAsk; simp, hu, by unfold clAsk; simp, by unfold clAsk; simp⟩
theorem hMA {u a t c y : Int} (hu : -9223372036854775808 ≤ u ∧ u ≤ 9223372036854775807) (ha : 0 ≤ a) (hc : 0 ≤ c) (ht : a < t) (hy : c < y) (h : c < a) : HistIn [(clAsk 1 u c y false), (clAdd 0 u a t true)] := hist_two (may_ask (by omega) (by omega) (by omega) (by omega)) (may_add (by omega) (by omega) (by omega) (by omega)) (fits_two h rfl (by unfold clAdd clAsk; simp)) ⟨by unfold clAsk; simp, hu, by unfold clAsk; simp, by unfold clAsk; simp⟩ ⟨by unfold clAdd; simp, hu, by unfold clAdd; simp, by unfold clAdd; simp⟩
theorem hAL {u a t c y : Int} (hu : -9223372036854775808 ≤ u ∧ u ≤ 9223372036854775807) (ha : 0 ≤ a) (hc : 0 ≤ c) (ht : a < t) (hy : c < y) (h : a < c) : HistIn [(clAdd 0 u a t true), (clAdd 1 u c y false)] := hist_two (may_add (by omega) (by omega) (by omega) (by omega)) (may_add (by omega) (by omega) (by omega) (by omega)) (fits_two h rfl (by unfold clAdd; simp)) ⟨by unfold clAdd; simp, hu, by unfold clAdd; simp, by unfold clAdd; simp⟩ ⟨by unfold clAdd; simp, hu, by unfold clAdd; simp, by unfold clAdd; simp⟩
theorem hLA {u a t c y : Int} (hu : -9223372036854775808 ≤ u ∧ u ≤ 9223372036854775807) (ha : 0 ≤ a) (hc : 0 ≤ c) (ht : a < t) (hy : c < y) (h : c < a) : HistIn [(clAdd 1 u c y false), (clAdd 0 u a t true)] := hist_two (may_add (by omega) (by omega) (by omega) (by omega)) (may_add (by omega) (by omega) (by omega) (by omega)) (fits_two h rfl (by unfold clAdd; simp)) ⟨by unfold clAdd; simp, hu, by unfold clAdd; simp, by unfold clAdd; simp⟩ ⟨by unfold clAdd; simp, hu, by unfold clAdd; simp, by unfold clAdd; simp⟩
set_option maxHeartbeats 16000000 in
theorem linEither_any (u a b c e : Int) (w : World) (hu : -9223372036854775808 ≤ u ∧ u ≤ 9223372036854775807) (ha : 0 ≤ a ∧ a < 256) (hb : 0 ≤ b ∧ b < 256) (hc : 0 ≤ c ∧ c < 256) (he : 0 ≤ e ∧ e < 256) (hT : Tab w) :
    Calls Tryz.prog 7 #[.agg #[.int .i64 u, .int .u8 a, .int .u8 b, .int .u8 c, .int .u8 e]] w fun e w' => e = .returned (.bool true) ∧ Below w.heap.size w w' := by
  have BA := Lib.hid ((Below.refl w.heap.size w).alloc (Nat.le_refl _) (.cells #[.int .i64 u, .int .u8 a, .int .u8 b, .int .u8 c, .int .u8 e] 56))
  have D8 := Lib.hid (shown_any (w.alloc (.cells #[.int .i64 u, .int .u8 a, .int .u8 b, .int .u8 c, .int .u8 e] 56)) (hT.below BA.out (Nat.le_refl _)))
  have HT := Lib.hid hT
  clear hT
  have wa : IntKind.i64.wrap a = a := by rw [IntKind.wrap_i64] <;> omega
  have wc : IntKind.i64.wrap c = c := by rw [IntKind.wrap_i64] <;> omega
  have wb : IntKind.i64.wrap b = b := by rw [IntKind.wrap_i64] <;> omega
  have we : IntKind.i64.wrap e = e := by rw [IntKind.wrap_i64] <;> omega
  have wa1 : IntKind.i64.wrap (a + 1) = a + 1 := by rw [IntKind.wrap_i64] <;> omega
  have wc1 : IntKind.i64.wrap (c + 1) = c + 1 := by rw [IntKind.wrap_i64] <;> omega
  obtain ⟨t, ht⟩ : ∃ t, t = a + 1 + b := ⟨_, rfl⟩
  obtain ⟨y, hy⟩ : ∃ y, y = c + 1 + e := ⟨_, rfl⟩
  have wt : IntKind.i64.wrap (a + 1 + b) = t := by rw [IntKind.wrap_i64] <;> omega
  have wy : IntKind.i64.wrap (c + 1 + e) = y := by rw [IntKind.wrap_i64] <;> omega
  have HU := Lib.hid hu
  have HA := Lib.hid ha
  have HC := Lib.hid hc
  have HTT : Hid (a < t) := Lib.hid (by omega)
  have HYY : Hid (c < y) := Lib.hid (by omega)
  have HT0 : Hid (0 ≤ t) := Lib.hid (by omega)
  have HY0 : Hid (0 ≤ y) := Lib.hid (by omega)
  clear ht hy hu ha hb hc he
  have D18 : Hid (∀ W : World, Calls Tryz.prog 18 #[.int .i64 u] W fun e w' => e = .returned (.bool (Gr.isV u)) ∧ W = w') := Lib.hid fun W => Gr.is_any u W
  obtain ⟨v, hv⟩ : ∃ v, Gr.isV u = v := ⟨_, rfl⟩
  rw [hv] at D18
  have HV := Lib.hid hv
  clear hv
  have fin1 : Hid (∀ w1 : World, Below (w.alloc (.cells #[.int .i64 u, .int .u8 a, .int .u8 b, .int .u8 c, .int .u8 e] 56)).heap.size (w.alloc (.cells #[.int .i64 u, .int .u8 a, .int .u8 b, .int .u8 c, .int .u8 e] 56)) w1 → Below w.heap.size w w1) := Lib.hid fun w1 h => BA.out.trans (h.mono BA.out.size)
  cases v
  · go_enter Tryz.func7, Tryz.ntmps7
    go_wp2_with (first
      | (go_at_call 8; ((with_reducible refine D8.out.mono ?_); rintro e1 w1 ⟨rfl, hb1⟩; have B0 := Lib.hid (fin1.out w1 hb1); clear hb1))
      | (go_at_call 18; ((with_reducible refine (D18.out _).mono ?_); rintro e2 w2 ⟨rfl, rfl⟩)))
    go_ret
    exact ⟨rfl, B0.out⟩
  · by_cases hca : c = a
    · have f1 : (c == a) = true := by simpa using hca
      clear hca
      go_enter Tryz.func7, Tryz.ntmps7
      go_wp2_with (first
        | (go_at_call 8; ((with_reducible refine D8.out.mono ?_); rintro e1 w1 ⟨rfl, hb1⟩; have B0 := Lib.hid (fin1.out w1 hb1); clear hb1))
        | (go_at_call 18; ((with_reducible refine (D18.out _).mono ?_); rintro e2 w2 ⟨rfl, rfl⟩)))
      go_ret
      exact ⟨rfl, B0.out⟩
    · have f1 : (c == a) = false := by simpa using hca
      have HNE := Lib.hid hca
      clear hca
      go_enter Tryz.func7, Tryz.ntmps7
      go_upto_region 21 with (first
        | (go_at_call 8; ((with_reducible refine D8.out.mono ?_); rintro e1 w1 ⟨rfl, hb1⟩; have B0 := Lib.hid (fin1.out w1 hb1); clear hb1))
        | (go_at_call 18; ((with_reducible refine (D18.out _).mono ?_); rintro e2 w2 ⟨rfl, rfl⟩)))
      have K := Lib.hid (fourAt u a t c y w1)
      have B4 := Lib.hid (fourAt u a t c y w1 _ (Below.refl (((((w1.alloc (.cells #[.int .i64 0, .int .i64 11, .int .i64 u, .int .i64 0, .int .u64 0, .int .i64 0, .int .i64 a, .int .i64 t, .int .i64 0, .bool true, .int .i64 0, .int .u64 0, .slice none 0 0] 43)).alloc (.cells #[.int .i64 1, .int .i64 13, .int .i64 u, .int .i64 0, .int .u64 0, .int .i64 0, .int .i64 c, .int .i64 y, .int .i64 0, .bool true, .int .i64 0, .int .u64 0, .slice none 0 0] 43)).alloc (.cells #[.int .i64 1, .int .i64 13, .int .i64 u, .int .i64 0, .int .u64 0, .int .i64 0, .int .i64 c, .int .i64 y, .int .i64 0, .bool false, .int .i64 0, .int .u64 0, .slice none 0 0] 43)).alloc (.cells #[.int .i64 1, .int .i64 11, .int .i64 u, .int .i64 0, .int .u64 0, .int .i64 0, .int .i64 c, .int .i64 y, .int .i64 0, .bool false, .int .i64 0, .int .u64 0, .slice none 0 0] 43))).heap.size (((((w1.alloc (.cells #[.int .i64 0, .int .i64 11, .int .i64 u, .int .i64 0, .int .u64 0, .int .i64 0, .int .i64 a, .int .i64 t, .int .i64 0, .bool true, .int .i64 0, .int .u64 0, .slice none 0 0] 43)).alloc (.cells #[.int .i64 1, .int .i64 13, .int .i64 u, .int .i64 0, .int .u64 0, .int .i64 0, .int .i64 c, .int .i64 y, .int .i64 0, .bool true, .int .i64 0, .int .u64 0, .slice none 0 0] 43)).alloc (.cells #[.int .i64 1, .int .i64 13, .int .i64 u, .int .i64 0, .int .u64 0, .int .i64 0, .int .i64 c, .int .i64 y, .int .i64 0, .bool false, .int .i64 0, .int .u64 0, .slice none 0 0] 43)).alloc (.cells #[.int .i64 1, .int .i64 11, .int .i64 u, .int .i64 0, .int .u64 0, .int .i64 0, .int .i64 c, .int .i64 y, .int .i64 0, .bool false, .int .i64 0, .int .u64 0, .slice none 0 0] 43))))).2.2.2.2
      have T4 := Lib.hid ((HT.out.below B0.out (Nat.le_refl _)).below B4.out (Nat.le_refl _))
      generalize ((((w1.alloc (.cells #[.int .i64 0, .int .i64 11, .int .i64 u, .int .i64 0, .int .u64 0, .int .i64 0, .int .i64 a, .int .i64 t, .int .i64 0, .bool true, .int .i64 0, .int .u64 0, .slice none 0 0] 43)).alloc (.cells #[.int .i64 1, .int .i64 13, .int .i64 u, .int .i64 0, .int .u64 0, .int .i64 0, .int .i64 c, .int .i64 y, .int .i64 0, .bool true, .int .i64 0, .int .u64 0, .slice none 0 0] 43)).alloc (.cells #[.int .i64 1, .int .i64 13, .int .i64 u, .int .i64 0, .int .u64 0, .int .i64 0, .int .i64 c, .int .i64 y, .int .i64 0, .bool false, .int .i64 0, .int .u64 0, .slice none 0 0] 43)).alloc (.cells #[.int .i64 1, .int .i64 11, .int .i64 u, .int .i64 0, .int .u64 0, .int .i64 0, .int .i64 c, .int .i64 y, .int .i64 0, .bool false, .int .i64 0, .int .u64 0, .slice none 0 0] 43)) = w4 at *
      by_cases hlt : c < a
      · have f2 : decide (c < a) = true := decide_eq_true hlt
        have HLT := Lib.hid hlt
        clear hlt
        obtain ⟨x0, hx0⟩ : ∃ x0, x0 = w4 := ⟨_, rfl⟩
        subst hx0
        have E0 := Lib.hid (Below.refl x0.heap.size x0)
        obtain ⟨a0, a1, a2, a3, a4, a5, a6, a7, a8, a9, a10, a11, a12⟩ := (K.out _ E0.out).1
        obtain ⟨b0, b1, b2, b3, b4, b5, b6, b7, b8, b9, b10, b11, b12⟩ := (K.out _ E0.out).2.1
        go_upto_region 22 with (fail)
        have E1 := Lib.hid (E0.out.alloc E0.out.size (.cells #[.int .i64 0, .int .i64 11, .int .i64 u, .int .i64 0, .int .u64 0, .int .i64 0, .int .i64 a, .int .i64 t, .int .i64 0, .bool true, .int .i64 0, .int .u64 0, .slice none 0 0, .int .i64 1, .int .i64 13, .int .i64 u, .int .i64 0, .int .u64 0, .int .i64 0, .int .i64 c, .int .i64 y, .int .i64 0, .bool true, .int .i64 0, .int .u64 0, .slice none 0 0] 43))
        generalize x0.alloc (.cells #[.int .i64 0, .int .i64 11, .int .i64 u, .int .i64 0, .int .u64 0, .int .i64 0, .int .i64 a, .int .i64 t, .int .i64 0, .bool true, .int .i64 0, .int .u64 0, .slice none 0 0, .int .i64 1, .int .i64 13, .int .i64 u, .int .i64 0, .int .u64 0, .int .i64 0, .int .i64 c, .int .i64 y, .int .i64 0, .bool true, .int .i64 0, .int .u64 0, .slice none 0 0] 43) = x1 at *
        clear a0 a1 a2 a3 a4 a5 a6 a7 a8 a9 a10 a11 a12 b0 b1 b2 b3 b4 b5 b6 b7 b8 b9 b10 b11 b12
        obtain ⟨a0, a1, a2, a3, a4, a5, a6, a7, a8, a9, a10, a11, a12⟩ := (K.out _ E1.out).1
        obtain ⟨b0, b1, b2, b3, b4, b5, b6, b7, b8, b9, b10, b11, b12⟩ := (K.out _ E1.out).2.2.1
        go_upto_region 23 with (fail)
        have E2 := Lib.hid (E1.out.alloc E1.out.size (.cells #[.int .i64 0, .int .i64 11, .int .i64 u, .int .i64 0, .int .u64 0, .int .i64 0, .int .i64 a, .int .i64 t, .int .i64 0, .bool true, .int .i64 0, .int .u64 0, .slice none 0 0, .int .i64 1, .int .i64 13, .int .i64 u, .int .i64 0, .int .u64 0, .int .i64 0, .int .i64 c, .int .i64 y, .int .i64 0, .bool false, .int .i64 0, .int .u64 0, .slice none 0 0] 43))
        generalize x1.alloc (.cells #[.int .i64 0, .int .i64 11, .int .i64 u, .int .i64 0, .int .u64 0, .int .i64 0, .int .i64 a, .int .i64 t, .int .i64 0, .bool true, .int .i64 0, .int .u64 0, .slice none 0 0, .int .i64 1, .int .i64 13, .int .i64 u, .int .i64 0, .int .u64 0, .int .i64 0, .int .i64 c, .int .i64 y, .int .i64 0, .bool false, .int .i64 0, .int .u64 0, .slice none 0 0] 43) = x2 at *
        clear a0 a1 a2 a3 a4 a5 a6 a7 a8 a9 a10 a11 a12 b0 b1 b2 b3 b4 b5 b6 b7 b8 b9 b10 b11 b12
        obtain ⟨a0, a1, a2, a3, a4, a5, a6, a7, a8, a9, a10, a11, a12⟩ := (K.out _ E2.out).1
        obtain ⟨b0, b1, b2, b3, b4, b5, b6, b7, b8, b9, b10, b11, b12⟩ := (K.out _ E2.out).2.2.2.1
        go_upto_region 25 with (fail)
        have E3 := Lib.hid (E2.out.alloc E2.out.size (.cells #[.int .i64 0, .int .i64 11, .int .i64 u, .int .i64 0, .int .u64 0, .int .i64 0, .int .i64 a, .int .i64 t, .int .i64 0, .bool true, .int .i64 0, .int .u64 0, .slice none 0 0, .int .i64 1, .int .i64 11, .int .i64 u, .int .i64 0, .int .u64 0, .int .i64 0, .int .i64 c, .int .i64 y, .int .i64 0, .bool false, .int .i64 0, .int .u64 0, .slice none 0 0] 43))
        generalize x2.alloc (.cells #[.int .i64 0, .int .i64 11, .int .i64 u, .int .i64 0, .int .u64 0, .int .i64 0, .int .i64 a, .int .i64 t, .int .i64 0, .bool true, .int .i64 0, .int .u64 0, .slice none 0 0, .int .i64 1, .int .i64 11, .int .i64 u, .int .i64 0, .int .u64 0, .int .i64 0, .int .i64 c, .int .i64 y, .int .i64 0, .bool false, .int .i64 0, .int .u64 0, .slice none 0 0] 43) = x3 at *
        clear a0 a1 a2 a3 a4 a5 a6 a7 a8 a9 a10 a11 a12 b0 b1 b2 b3 b4 b5 b6 b7 b8 b9 b10 b11 b12
        obtain ⟨a0, a1, a2, a3, a4, a5, a6, a7, a8, a9, a10, a11, a12⟩ := (K.out _ E3.out).2.1
        obtain ⟨b0, b1, b2, b3, b4, b5, b6, b7, b8, b9, b10, b11, b12⟩ := (K.out _ E3.out).1
        go_upto_region 26 with (fail)
        have I3 := Lib.hid (lin_two (W := x3) (a := (clAsk 1 u c y true)) (b := (clAdd 0 u a t true)) (T4.out.below E3.out (Nat.le_refl _)) rfl rfl (hYA HU.out HA.out.1 HC.out.1 HTT.out HYY.out HLT.out))
        change Hid (LIn (x3.alloc (.cells #[.int .i64 1, .int .i64 13, .int .i64 u, .int .i64 0, .int .u64 0, .int .i64 0, .int .i64 c, .int .i64 y, .int .i64 0, .bool true, .int .i64 0, .int .u64 0, .slice none 0 0, .int .i64 0, .int .i64 11, .int .i64 u, .int .i64 0, .int .u64 0, .int .i64 0, .int .i64 a, .int .i64 t, .int .i64 0, .bool true, .int .i64 0, .int .u64 0, .slice none 0 0] 43)) none 0 [] (some ⟨x3.heap.size, 0, none⟩) 2 [(clAsk 1 u c y true), (clAdd 0 u a t true)]) at I3
        have E4 := Lib.hid (E3.out.alloc E3.out.size (.cells #[.int .i64 1, .int .i64 13, .int .i64 u, .int .i64 0, .int .u64 0, .int .i64 0, .int .i64 c, .int .i64 y, .int .i64 0, .bool true, .int .i64 0, .int .u64 0, .slice none 0 0, .int .i64 0, .int .i64 11, .int .i64 u, .int .i64 0, .int .u64 0, .int .i64 0, .int .i64 a, .int .i64 t, .int .i64 0, .bool true, .int .i64 0, .int .u64 0, .slice none 0 0] 43))
        generalize x3.alloc (.cells #[.int .i64 1, .int .i64 13, .int .i64 u, .int .i64 0, .int .u64 0, .int .i64 0, .int .i64 c, .int .i64 y, .int .i64 0, .bool true, .int .i64 0, .int .u64 0, .slice none 0 0, .int .i64 0, .int .i64 11, .int .i64 u, .int .i64 0, .int .u64 0, .int .i64 0, .int .i64 a, .int .i64 t, .int .i64 0, .bool true, .int .i64 0, .int .u64 0, .slice none 0 0] 43) = x4 at *
        clear a0 a1 a2 a3 a4 a5 a6 a7 a8 a9 a10 a11 a12 b0 b1 b2 b3 b4 b5 b6 b7 b8 b9 b10 b11 b12
        obtain ⟨a0, a1, a2, a3, a4, a5, a6, a7, a8, a9, a10, a11, a12⟩ := (K.out _ E4.out).2.2.1
        obtain ⟨b0, b1, b2, b3, b4, b5, b6, b7, b8, b9, b10, b11, b12⟩ := (K.out _ E4.out).1
        go_upto_region 27 with (fail)
        have I4 := Lib.hid (lin_two (W := x4) (a := (clAsk 1 u c y false)) (b := (clAdd 0 u a t true)) (T4.out.below E4.out (Nat.le_refl _)) rfl rfl (hMA HU.out HA.out.1 HC.out.1 HTT.out HYY.out HLT.out))
        change Hid (LIn (x4.alloc (.cells #[.int .i64 1, .int .i64 13, .int .i64 u, .int .i64 0, .int .u64 0, .int .i64 0, .int .i64 c, .int .i64 y, .int .i64 0, .bool false, .int .i64 0, .int .u64 0, .slice none 0 0, .int .i64 0, .int .i64 11, .int .i64 u, .int .i64 0, .int .u64 0, .int .i64 0, .int .i64 a, .int .i64 t, .int .i64 0, .bool true, .int .i64 0, .int .u64 0, .slice none 0 0] 43)) none 0 [] (some ⟨x4.heap.size, 0, none⟩) 2 [(clAsk 1 u c y false), (clAdd 0 u a t true)]) at I4
        have E5 := Lib.hid (E4.out.alloc E4.out.size (.cells #[.int .i64 1, .int .i64 13, .int .i64 u, .int .i64 0, .int .u64 0, .int .i64 0, .int .i64 c, .int .i64 y, .int .i64 0, .bool false, .int .i64 0, .int .u64 0, .slice none 0 0, .int .i64 0, .int .i64 11, .int .i64 u, .int .i64 0, .int .u64 0, .int .i64 0, .int .i64 a, .int .i64 t, .int .i64 0, .bool true, .int .i64 0, .int .u64 0, .slice none 0 0] 43))
        have F4_5 := Lib.hid ((Below.refl x4.heap.size x4).alloc (Nat.le_refl _) (.cells #[.int .i64 1, .int .i64 13, .int .i64 u, .int .i64 0, .int .u64 0, .int .i64 0, .int .i64 c, .int .i64 y, .int .i64 0, .bool false, .int .i64 0, .int .u64 0, .slice none 0 0, .int .i64 0, .int .i64 11, .int .i64 u, .int .i64 0, .int .u64 0, .int .i64 0, .int .i64 a, .int .i64 t, .int .i64 0, .bool true, .int .i64 0, .int .u64 0, .slice none 0 0] 43))
        generalize x4.alloc (.cells #[.int .i64 1, .int .i64 13, .int .i64 u, .int .i64 0, .int .u64 0, .int .i64 0, .int .i64 c, .int .i64 y, .int .i64 0, .bool false, .int .i64 0, .int .u64 0, .slice none 0 0, .int .i64 0, .int .i64 11, .int .i64 u, .int .i64 0, .int .u64 0, .int .i64 0, .int .i64 a, .int .i64 t, .int .i64 0, .bool true, .int .i64 0, .int .u64 0, .slice none 0 0] 43) = x5 at *
        clear a0 a1 a2 a3 a4 a5 a6 a7 a8 a9 a10 a11 a12 b0 b1 b2 b3 b4 b5 b6 b7 b8 b9 b10 b11 b12
        obtain ⟨a0, a1, a2, a3, a4, a5, a6, a7, a8, a9, a10, a11, a12⟩ := (K.out _ E5.out).2.2.2.1
        obtain ⟨b0, b1, b2, b3, b4, b5, b6, b7, b8, b9, b10, b11, b12⟩ := (K.out _ E5.out).1
        go_upto_region 28 with (fail)
        have I5 := Lib.hid (lin_two (W := x5) (a := (clAdd 1 u c y false)) (b := (clAdd 0 u a t true)) (T4.out.below E5.out (Nat.le_refl _)) rfl rfl (hLA HU.out HA.out.1 HC.out.1 HTT.out HYY.out HLT.out))
        change Hid (LIn (x5.alloc (.cells #[.int .i64 1, .int .i64 11, .int .i64 u, .int .i64 0, .int .u64 0, .int .i64 0, .int .i64 c, .int .i64 y, .int .i64 0, .bool false, .int .i64 0, .int .u64 0, .slice none 0 0, .int .i64 0, .int .i64 11, .int .i64 u, .int .i64 0, .int .u64 0, .int .i64 0, .int .i64 a, .int .i64 t, .int .i64 0, .bool true, .int .i64 0, .int .u64 0, .slice none 0 0] 43)) none 0 [] (some ⟨x5.heap.size, 0, none⟩) 2 [(clAdd 1 u c y false), (clAdd 0 u a t true)]) at I5
        have E6 := Lib.hid (E5.out.alloc E5.out.size (.cells #[.int .i64 1, .int .i64 11, .int .i64 u, .int .i64 0, .int .u64 0, .int .i64 0, .int .i64 c, .int .i64 y, .int .i64 0, .bool false, .int .i64 0, .int .u64 0, .slice none 0 0, .int .i64 0, .int .i64 11, .int .i64 u, .int .i64 0, .int .u64 0, .int .i64 0, .int .i64 a, .int .i64 t, .int .i64 0, .bool true, .int .i64 0, .int .u64 0, .slice none 0 0] 43))
        have F4_6 := Lib.hid (F4_5.out.alloc F4_5.out.size (.cells #[.int .i64 1, .int .i64 11, .int .i64 u, .int .i64 0, .int .u64 0, .int .i64 0, .int .i64 c, .int .i64 y, .int .i64 0, .bool false, .int .i64 0, .int .u64 0, .slice none 0 0, .int .i64 0, .int .i64 11, .int .i64 u, .int .i64 0, .int .u64 0, .int .i64 0, .int .i64 a, .int .i64 t, .int .i64 0, .bool true, .int .i64 0, .int .u64 0, .slice none 0 0] 43))
        have F5_6 := Lib.hid ((Below.refl x5.heap.size x5).alloc (Nat.le_refl _) (.cells #[.int .i64 1, .int .i64 11, .int .i64 u, .int .i64 0, .int .u64 0, .int .i64 0, .int .i64 c, .int .i64 y, .int .i64 0, .bool false, .int .i64 0, .int .u64 0, .slice none 0 0, .int .i64 0, .int .i64 11, .int .i64 u, .int .i64 0, .int .u64 0, .int .i64 0, .int .i64 a, .int .i64 t, .int .i64 0, .bool true, .int .i64 0, .int .u64 0, .slice none 0 0] 43))
        generalize x5.alloc (.cells #[.int .i64 1, .int .i64 11, .int .i64 u, .int .i64 0, .int .u64 0, .int .i64 0, .int .i64 c, .int .i64 y, .int .i64 0, .bool false, .int .i64 0, .int .u64 0, .slice none 0 0, .int .i64 0, .int .i64 11, .int .i64 u, .int .i64 0, .int .u64 0, .int .i64 0, .int .i64 a, .int .i64 t, .int .i64 0, .bool true, .int .i64 0, .int .u64 0, .slice none 0 0] 43) = x6 at *
        clear a0 a1 a2 a3 a4 a5 a6 a7 a8 a9 a10 a11 a12 b0 b1 b2 b3 b4 b5 b6 b7 b8 b9 b10 b11 b12
        have J0 := Lib.hid (I3.out.below (F4_6.out) (Nat.le_refl _))
        have J1 := Lib.hid (I4.out.below (F5_6.out) (Nat.le_refl _))
        have J2 := Lib.hid (I5.out.below (Below.refl _ _) (Nat.le_refl _))
        go_wp2_with (first
          | (go_at_call 14; ((with_reducible refine (oYA u a t c y _ x6 J0.out HV.out HT0.out HY0.out).mono ?_); rintro e w6 ⟨rfl, hb⟩; have H6 := Lib.hid hb; clear hb))
          | (go_at_call 14; ((with_reducible refine (oMA u a t c y _ w6 (J1.out.below H6.out (Nat.le_refl _)) HV.out HT0.out HY0.out).mono ?_); rintro e w7 ⟨rfl, hb⟩; have H7 := Lib.hid (H6.out.trans (hb.mono H6.out.size)); clear hb))
          | (go_at_call 14; ((with_reducible refine (oLA u a t c y _ w7 (J2.out.below H7.out (Nat.le_refl _)) HV.out HT0.out HY0.out).mono ?_); rintro e w8 ⟨rfl, hb⟩; have H8 := Lib.hid (H7.out.trans (hb.mono H7.out.size)); clear hb)))
        go_ret
        exact ⟨by first | rfl | simp, B0.out.trans ((B4.out.trans ((E6.out.trans (H8.out.mono E6.out.size)).mono B4.out.size)).mono B0.out.size)⟩
      · have f2 : decide (c < a) = false := decide_eq_false hlt
        have HLT : Hid (a < c) := Lib.hid (by have := HNE.out; omega)
        clear hlt
        obtain ⟨x0, hx0⟩ : ∃ x0, x0 = w4 := ⟨_, rfl⟩
        subst hx0
        have E0 := Lib.hid (Below.refl x0.heap.size x0)
        obtain ⟨a0, a1, a2, a3, a4, a5, a6, a7, a8, a9, a10, a11, a12⟩ := (K.out _ E0.out).1
        obtain ⟨b0, b1, b2, b3, b4, b5, b6, b7, b8, b9, b10, b11, b12⟩ := (K.out _ E0.out).2.1
        go_upto_region 22 with (fail)
        have I0 := Lib.hid (lin_two (W := x0) (a := (clAdd 0 u a t true)) (b := (clAsk 1 u c y true)) (T4.out.below E0.out (Nat.le_refl _)) rfl rfl (hAY HU.out HA.out.1 HC.out.1 HTT.out HYY.out HLT.out))
        change Hid (LIn (x0.alloc (.cells #[.int .i64 0, .int .i64 11, .int .i64 u, .int .i64 0, .int .u64 0, .int .i64 0, .int .i64 a, .int .i64 t, .int .i64 0, .bool true, .int .i64 0, .int .u64 0, .slice none 0 0, .int .i64 1, .int .i64 13, .int .i64 u, .int .i64 0, .int .u64 0, .int .i64 0, .int .i64 c, .int .i64 y, .int .i64 0, .bool true, .int .i64 0, .int .u64 0, .slice none 0 0] 43)) none 0 [] (some ⟨x0.heap.size, 0, none⟩) 2 [(clAdd 0 u a t true), (clAsk 1 u c y true)]) at I0
        have E1 := Lib.hid (E0.out.alloc E0.out.size (.cells #[.int .i64 0, .int .i64 11, .int .i64 u, .int .i64 0, .int .u64 0, .int .i64 0, .int .i64 a, .int .i64 t, .int .i64 0, .bool true, .int .i64 0, .int .u64 0, .slice none 0 0, .int .i64 1, .int .i64 13, .int .i64 u, .int .i64 0, .int .u64 0, .int .i64 0, .int .i64 c, .int .i64 y, .int .i64 0, .bool true, .int .i64 0, .int .u64 0, .slice none 0 0] 43))
        generalize x0.alloc (.cells #[.int .i64 0, .int .i64 11, .int .i64 u, .int .i64 0, .int .u64 0, .int .i64 0, .int .i64 a, .int .i64 t, .int .i64 0, .bool true, .int .i64 0, .int .u64 0, .slice none 0 0, .int .i64 1, .int .i64 13, .int .i64 u, .int .i64 0, .int .u64 0, .int .i64 0, .int .i64 c, .int .i64 y, .int .i64 0, .bool true, .int .i64 0, .int .u64 0, .slice none 0 0] 43) = x1 at *
        clear a0 a1 a2 a3 a4 a5 a6 a7 a8 a9 a10 a11 a12 b0 b1 b2 b3 b4 b5 b6 b7 b8 b9 b10 b11 b12
        obtain ⟨a0, a1, a2, a3, a4, a5, a6, a7, a8, a9, a10, a11, a12⟩ := (K.out _ E1.out).1
        obtain ⟨b0, b1, b2, b3, b4, b5, b6, b7, b8, b9, b10, b11, b12⟩ := (K.out _ E1.out).2.2.1
        go_upto_region 23 with (fail)
        have I1 := Lib.hid (lin_two (W := x1) (a := (clAdd 0 u a t true)) (b := (clAsk 1 u c y false)) (T4.out.below E1.out (Nat.le_refl _)) rfl rfl (hAM HU.out HA.out.1 HC.out.1 HTT.out HYY.out HLT.out))
        change Hid (LIn (x1.alloc (.cells #[.int .i64 0, .int .i64 11, .int .i64 u, .int .i64 0, .int .u64 0, .int .i64 0, .int .i64 a, .int .i64 t, .int .i64 0, .bool true, .int .i64 0, .int .u64 0, .slice none 0 0, .int .i64 1, .int .i64 13, .int .i64 u, .int .i64 0, .int .u64 0, .int .i64 0, .int .i64 c, .int .i64 y, .int .i64 0, .bool false, .int .i64 0, .int .u64 0, .slice none 0 0] 43)) none 0 [] (some ⟨x1.heap.size, 0, none⟩) 2 [(clAdd 0 u a t true), (clAsk 1 u c y false)]) at I1
        have E2 := Lib.hid (E1.out.alloc E1.out.size (.cells #[.int .i64 0, .int .i64 11, .int .i64 u, .int .i64 0, .int .u64 0, .int .i64 0, .int .i64 a, .int .i64 t, .int .i64 0, .bool true, .int .i64 0, .int .u64 0, .slice none 0 0, .int .i64 1, .int .i64 13, .int .i64 u, .int .i64 0, .int .u64 0, .int .i64 0, .int .i64 c, .int .i64 y, .int .i64 0, .bool false, .int .i64 0, .int .u64 0, .slice none 0 0] 43))
        have F1_2 := Lib.hid ((Below.refl x1.heap.size x1).alloc (Nat.le_refl _) (.cells #[.int .i64 0, .int .i64 11, .int .i64 u, .int .i64 0, .int .u64 0, .int .i64 0, .int .i64 a, .int .i64 t, .int .i64 0, .bool true, .int .i64 0, .int .u64 0, .slice none 0 0, .int .i64 1, .int .i64 13, .int .i64 u, .int .i64 0, .int .u64 0, .int .i64 0, .int .i64 c, .int .i64 y, .int .i64 0, .bool false, .int .i64 0, .int .u64 0, .slice none 0 0] 43))
        generalize x1.alloc (.cells #[.int .i64 0, .int .i64 11, .int .i64 u, .int .i64 0, .int .u64 0, .int .i64 0, .int .i64 a, .int .i64 t, .int .i64 0, .bool true, .int .i64 0, .int .u64 0, .slice none 0 0, .int .i64 1, .int .i64 13, .int .i64 u, .int .i64 0, .int .u64 0, .int .i64 0, .int .i64 c, .int .i64 y, .int .i64 0, .bool false, .int .i64 0, .int .u64 0, .slice none 0 0] 43) = x2 at *
        clear a0 a1 a2 a3 a4 a5 a6 a7 a8 a9 a10 a11 a12 b0 b1 b2 b3 b4 b5 b6 b7 b8 b9 b10 b11 b12
        obtain ⟨a0, a1, a2, a3, a4, a5, a6, a7, a8, a9, a10, a11, a12⟩ := (K.out _ E2.out).1
        obtain ⟨b0, b1, b2, b3, b4, b5, b6, b7, b8, b9, b10, b11, b12⟩ := (K.out _ E2.out).2.2.2.1
        go_upto_region 28 with (fail)
        have I2 := Lib.hid (lin_two (W := x2) (a := (clAdd 0 u a t true)) (b := (clAdd 1 u c y false)) (T4.out.below E2.out (Nat.le_refl _)) rfl rfl (hAL HU.out HA.out.1 HC.out.1 HTT.out HYY.out HLT.out))
        change Hid (LIn (x2.alloc (.cells #[.int .i64 0, .int .i64 11, .int .i64 u, .int .i64 0, .int .u64 0, .int .i64 0, .int .i64 a, .int .i64 t, .int .i64 0, .bool true, .int .i64 0, .int .u64 0, .slice none 0 0, .int .i64 1, .int .i64 11, .int .i64 u, .int .i64 0, .int .u64 0, .int .i64 0, .int .i64 c, .int .i64 y, .int .i64 0, .bool false, .int .i64 0, .int .u64 0, .slice none 0 0] 43)) none 0 [] (some ⟨x2.heap.size, 0, none⟩) 2 [(clAdd 0 u a t true), (clAdd 1 u c y false)]) at I2
        have E3 := Lib.hid (E2.out.alloc E2.out.size (.cells #[.int .i64 0, .int .i64 11, .int .i64 u, .int .i64 0, .int .u64 0, .int .i64 0, .int .i64 a, .int .i64 t, .int .i64 0, .bool true, .int .i64 0, .int .u64 0, .slice none 0 0, .int .i64 1, .int .i64 11, .int .i64 u, .int .i64 0, .int .u64 0, .int .i64 0, .int .i64 c, .int .i64 y, .int .i64 0, .bool false, .int .i64 0, .int .u64 0, .slice none 0 0] 43))
        have F1_3 := Lib.hid (F1_2.out.alloc F1_2.out.size (.cells #[.int .i64 0, .int .i64 11, .int .i64 u, .int .i64 0, .int .u64 0, .int .i64 0, .int .i64 a, .int .i64 t, .int .i64 0, .bool true, .int .i64 0, .int .u64 0, .slice none 0 0, .int .i64 1, .int .i64 11, .int .i64 u, .int .i64 0, .int .u64 0, .int .i64 0, .int .i64 c, .int .i64 y, .int .i64 0, .bool false, .int .i64 0, .int .u64 0, .slice none 0 0] 43))
        have F2_3 := Lib.hid ((Below.refl x2.heap.size x2).alloc (Nat.le_refl _) (.cells #[.int .i64 0, .int .i64 11, .int .i64 u, .int .i64 0, .int .u64 0, .int .i64 0, .int .i64 a, .int .i64 t, .int .i64 0, .bool true, .int .i64 0, .int .u64 0, .slice none 0 0, .int .i64 1, .int .i64 11, .int .i64 u, .int .i64 0, .int .u64 0, .int .i64 0, .int .i64 c, .int .i64 y, .int .i64 0, .bool false, .int .i64 0, .int .u64 0, .slice none 0 0] 43))
        generalize x2.alloc (.cells #[.int .i64 0, .int .i64 11, .int .i64 u, .int .i64 0, .int .u64 0, .int .i64 0, .int .i64 a, .int .i64 t, .int .i64 0, .bool true, .int .i64 0, .int .u64 0, .slice none 0 0, .int .i64 1, .int .i64 11, .int .i64 u, .int .i64 0, .int .u64 0, .int .i64 0, .int .i64 c, .int .i64 y, .int .i64 0, .bool false, .int .i64 0, .int .u64 0, .slice none 0 0] 43) = x3 at *
        clear a0 a1 a2 a3 a4 a5 a6 a7 a8 a9 a10 a11 a12 b0 b1 b2 b3 b4 b5 b6 b7 b8 b9 b10 b11 b12
        have J0 := Lib.hid (I0.out.below (F1_3.out) (Nat.le_refl _))
        have J1 := Lib.hid (I1.out.below (F2_3.out) (Nat.le_refl _))
        have J2 := Lib.hid (I2.out.below (Below.refl _ _) (Nat.le_refl _))
        go_wp2_with (first
          | (go_at_call 14; ((with_reducible refine (oAY u a t c y _ x3 J0.out HV.out HT0.out HY0.out).mono ?_); rintro e w6 ⟨rfl, hb⟩; have H6 := Lib.hid hb; clear hb))
          | (go_at_call 14; ((with_reducible refine (oAM u a t c y _ w6 (J1.out.below H6.out (Nat.le_refl _)) HV.out HT0.out HY0.out).mono ?_); rintro e w7 ⟨rfl, hb⟩; have H7 := Lib.hid (H6.out.trans (hb.mono H6.out.size)); clear hb))
          | (go_at_call 14; ((with_reducible refine (oAL u a t c y _ w7 (J2.out.below H7.out (Nat.le_refl _)) HV.out HT0.out HY0.out).mono ?_); rintro e w8 ⟨rfl, hb⟩; have H8 := Lib.hid (H7.out.trans (hb.mono H7.out.size)); clear hb)))
        go_ret
        exact ⟨by first | rfl | simp, B0.out.trans ((B4.out.trans ((E3.out.trans (H8.out.mono E3.out.size)).mono B4.out.size)).mono B0.out.size)⟩
end Go.Proofs.YtpdfmfkoopdfgaaGreatDoor
end
