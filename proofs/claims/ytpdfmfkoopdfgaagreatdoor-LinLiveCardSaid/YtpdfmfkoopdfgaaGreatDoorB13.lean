/- GWith, LRef1. -/
import Derived.Test.YtpdfmfkoopdfgaaGreatDoorB12
import Derived.Deep.RegionWith
set_option linter.unusedVariables false
set_option linter.unusedSimpArgs false
section
namespace Go.Proofs.YtpdfmfkoopdfgaaGreatDoor.Gr
set_option maxRecDepth 100000
open Go.RowKit Aid

theorem putIn_fine {l : List Arc} {i : Nat} {x : Arc} (hf : ∀ a ∈ l, a.Fine) (hx : x.Fine) : ∀ a ∈ putIn l i x, a.Fine := fun a ha => by
  unfold putIn at ha
  rcases List.mem_append.1 ha with h | h
  · exact hf a (List.mem_of_mem_take h)
  · rcases List.mem_cons.1 h with rfl | h
    · exact hx
    · exact hf a (List.mem_of_mem_drop h)
theorem insert_any (base : Nat) (A : Option Addr) (c n i vb vc : Nat) (l : List Arc) (x : Arc) (w : World) (hn : n = l.length) (hi : i ≤ n) (h40 : l.length ≤ 999) (hf : ∀ a ∈ l, a.Fine) (hx : x.Fine)
    (ho : w.ownsRow base 60 3 (.slice A n c) n (flat l)) (hb : base ≤ w.heap.size) (hv : w.rangeAt vb 0 (flat [x])) (hap : ∀ g, A = some ⟨g, 0, none⟩ → vb ≠ g) (hsa : w.shape? vb = some (60, 3)) (hfa : w.frozen? ⟨vb, 0, none⟩ = false) (hfe : w.frozen? ⟨vb, 3, none⟩ = false) :
    Calls Tryz.prog 139 #[.slice A n c, .int .i64 i, .slice (some ⟨vb, 0, none⟩) 1 vc] w fun e w' => ∃ B d, e = .returned (.slice B (putIn l i x).length d) ∧ Arcs w' B (putIn l i x) ∧ Below base w w' := by
  subst hn
  have hpl := putIn_length (x := x) hi
  have hpf := putIn_fine (i := i) hf hx
  rcases Nat.eq_or_lt_of_le hi with h | h
  · subst h
    refine (insert_end base A c l.length vb vc (flat l) x w (by omega) ho hb hv).mono ?_
    rintro e w' ⟨B, d, rfl, h1, h2⟩
    have e1 : putIn l l.length x = l ++ [x] := by unfold putIn; rw [List.take_length, List.drop_length]
    rw [← flat_append, ← e1, ← hpl] at h1
    exact ⟨B, d, by rw [hpl], own_arcs (by omega) hpf h1, h2⟩
  · rcases own_any3 ho with ⟨_, hn⟩ | ⟨g, c', hv'⟩
    · omega
    · injection hv' with hA _ hc
      subst hA hc
      obtain ⟨h1, h2, h3, h4, h5, h6, h7⟩ := own_range ho
      by_cases hroom : l.length + 1 ≤ c
      · refine (insert_shift g c i vb vc 3 (c * 3) l x w h hroom h3 (hap g rfl) h5 h6 hv hsa h7 (by omega) hfa hfe).mono ?_
        rintro e w' ⟨rfl, rfl⟩
        refine ⟨_, c, by rw [hpl], arcs_range (by omega) hpf (shift_range hi hroom ((World.rangeAt_drew _ _ _ _).2 h5) ((World.there_drew _ _ _ _).2 h6)), ?_⟩
        exact below_set _ h1 _ _ (below_set _ h1 _ _ (Below.refl base w).drew)
      · refine (insert_grow g c i vb vc l x w h (by omega) (by omega) h2 h5 hv).mono ?_
        rintro e w' ⟨B, d, rfl, h8, h9⟩
        exact ⟨_, d, by rw [hpl], arcs_range (by omega) hpf h8, h9.mono hb⟩
/-- graph.with. -/
def withL (l : List Arc) (x : Arc) : List Arc := if hasB l x.u x.v then l else putIn l (place l ⟨x.u, x.v, 0⟩) x
theorem place_le (l : List Arc) (t : Arc) : place l t ≤ l.length := by
  unfold place
  exact (List.takeWhile_prefix _).length_le
theorem made_one (w : World) (x : Arc) : (w.alloc (.cells #[.int .i64 x.u, .int .i64 x.v, .int .u64 x.w] 60)).rangeAt w.heap.size 0 (flat [x]) ∧ (w.alloc (.cells #[.int .i64 x.u, .int .i64 x.v, .int .u64 x.w] 60)).shape? w.heap.size = some (60, 3) ∧ ∀ j, (w.alloc (.cells #[.int .i64 x.u, .int .i64 x.v, .int .u64 x.w] 60)).frozen? ⟨w.heap.size, j, none⟩ = false := by
  refine ⟨fun j v hj => ?_, ?_, fun j => ?_⟩
  · rw [Nat.zero_add, World.cell?_alloc_new, ← hj]
    simp [flat]
  · unfold World.shape?; rw [heap_alloc_new]; rfl
  · unfold World.frozen?; simp only []; rw [heap_alloc_new]; simp
abbrev ob (x : Arc) : Obj := .cells #[.int .i64 x.u, .int .i64 x.v, .int .u64 x.w] 60
theorem insA {base : Nat} {B : Option Addr} {d n i : Nat} {l : List Arc} {x : Arc} {w3 : World} (hn : n = l.length) (hi : i ≤ n) (h40 : l.length ≤ 999) (hf : ∀ a ∈ l, a.Fine) (hx : x.Fine)
    (ho : w3.ownsRow base 60 3 (.slice B n d) n (flat l)) (hb : base ≤ w3.heap.size) :
    Calls Tryz.prog 139 #[.slice B n d, .int .i64 i, .slice (some ⟨w3.heap.size, 0, none⟩) 1 1] (w3.alloc (.cells #[.int .i64 x.u, .int .i64 x.v, .int .u64 x.w] 60)) fun e w' => ∃ B' d', e = .returned (.slice B' (putIn l i x).length d') ∧ Arcs w' B' (putIn l i x) ∧ Below base (w3.alloc (.cells #[.int .i64 x.u, .int .i64 x.v, .int .u64 x.w] 60)) w' := by
  obtain ⟨r1, r2, r3⟩ := made_one w3 x
  refine insert_any base B d n i w3.heap.size 1 l x _ hn hi h40 hf hx (ho.alloc _) (by rw [World.size_alloc]; omega) r1 (fun g hg => ?_) r2 (r3 0) (r3 3)
  have := (ho.lt g (by rw [hg]; rfl)).2
  omega
theorem insB {B : Option Addr} {d n i : Nat} {l : List Arc} {x : Arc} {W0 w3 : World} (hn : n = l.length) (hi : i ≤ n) (h40 : l.length ≤ 999) (hf : ∀ a ∈ l, a.Fine) (hx : x.Fine)
    (ho : w3.ownsRow (W0.alloc (.cells #[.int .i64 x.u, .int .i64 x.v, .int .u64 x.w] 60)).drew.heap.size 60 3 (.slice B n d) n (flat l))
    (hb : Below (W0.alloc (.cells #[.int .i64 x.u, .int .i64 x.v, .int .u64 x.w] 60)).drew.heap.size (W0.alloc (.cells #[.int .i64 x.u, .int .i64 x.v, .int .u64 x.w] 60)).drew w3) :
    Calls Tryz.prog 139 #[.slice B n d, .int .i64 i, .slice (some ⟨W0.heap.size, 0, none⟩) 1 1] w3 fun e w' => ∃ B' d', e = .returned (.slice B' (putIn l i x).length d') ∧ Arcs w' B' (putIn l i x) ∧ Below (W0.alloc (.cells #[.int .i64 x.u, .int .i64 x.v, .int .u64 x.w] 60)).drew.heap.size w3 w' := by
  obtain ⟨r1, r2, r3⟩ := made_one W0 x
  have hlt : W0.heap.size < (W0.alloc (.cells #[.int .i64 x.u, .int .i64 x.v, .int .u64 x.w] 60)).drew.heap.size := by show W0.heap.size < (W0.alloc (.cells #[.int .i64 x.u, .int .i64 x.v, .int .u64 x.w] 60)).heap.size; rw [World.size_alloc]; omega
  have hbl := hb.block W0.heap.size hlt
  have hdr : (W0.alloc (.cells #[.int .i64 x.u, .int .i64 x.v, .int .u64 x.w] 60)).drew.heap = (W0.alloc (.cells #[.int .i64 x.u, .int .i64 x.v, .int .u64 x.w] 60)).heap := rfl
  rw [hdr] at hbl
  refine insert_any _ B d n i W0.heap.size 1 l x _ hn hi h40 hf hx ho hb.size (fun j v hj => (hb.cell (p := ⟨W0.heap.size, 0 + j, none⟩) hlt).trans (r1 j v hj)) (fun g hg => ?_) ?_ ?_ ?_
  · have := (ho.lt g (by rw [hg]; rfl)).1
    omega
  · unfold World.shape? at r2 ⊢; rw [hbl]; exact r2
  · have := r3 0; unfold World.frozen? at this ⊢; simp only [] at this ⊢; rw [hbl]; exact this
  · have := r3 3; unfold World.frozen? at this ⊢; simp only [] at this ⊢; rw [hbl]; exact this
theorem qA {w W0 w3 : World} (o : Obj) (h : Below w.heap.size w W0) (h3 : Below W0.heap.size W0 w3) : ∀ w4, Below W0.heap.size (w3.alloc o) w4 → Below w.heap.size w w4 := fun _ h4 => h.trans (((h3.alloc h3.size o).trans h4).mono h.size)
theorem qB {w W0 w3 : World} (h : Below w.heap.size w W0) (h3 : Below W0.heap.size W0 w3) : ∀ w4, Below W0.heap.size w3 w4 → Below w.heap.size w w4 := fun _ h4 => h.trans ((h3.trans h4).mono h.size)
theorem withL_hit {l : List Arc} {x : Arc} (h : hasB l x.u x.v = true) : withL l x = l := by unfold withL; rw [if_pos h]
theorem withL_miss {l : List Arc} {x : Arc} (h : hasB l x.u x.v = false) : withL l x = putIn l (place l ⟨x.u, x.v, 0⟩) x := by unfold withL; rw [if_neg (by rw [h]; simp)]
set_option maxHeartbeats 4000000 in
theorem with_any (A : Option Addr) (c n : Nat) (l : List Arc) (x : Arc) (w : World) (hn : n = l.length) (hl : Arcs w A l) (hs : Rises l) (h40 : l.length ≤ 999) (hx : x.Fine) :
    Calls Tryz.prog 118 #[.slice A n c, x.val] w fun e w' => ∃ B d, e = .returned (.slice B (withL l x).length d) ∧ Arcs w' B (withL l x) ∧ Below w.heap.size w w' := by
  subst hn
  have HA := Lib.hid ((Below.refl w.heap.size w).alloc (Nat.le_refl _) (.cells #[.int .i64 x.u, .int .i64 x.v, .int .u64 x.w] 60))
  have HL := Lib.hid (hl.below HA.out (Nat.le_refl _))
  have HF := Lib.hid (find_any A c l.length l x.u x.v _ rfl HL.out hs (by omega))
  have d1 : (w.alloc (.cells #[.int .i64 x.u, .int .i64 x.v, .int .u64 x.w] 60)).cell? ⟨w.heap.size, 0, none⟩ = some (.int .i64 x.u) := by rw [World.cell?_alloc_new]; rfl
  have d2 : (w.alloc (.cells #[.int .i64 x.u, .int .i64 x.v, .int .u64 x.w] 60)).cell? ⟨w.heap.size, 1, none⟩ = some (.int .i64 x.v) := by rw [World.cell?_alloc_new]; rfl
  have d3 : (w.alloc (.cells #[.int .i64 x.u, .int .i64 x.v, .int .u64 x.w] 60)).cell? ⟨w.heap.size, 2, none⟩ = some (.int .u64 x.w) := by rw [World.cell?_alloc_new]; rfl
  have hsz : w.heap.size < (w.alloc (.cells #[.int .i64 x.u, .int .i64 x.v, .int .u64 x.w] 60)).heap.size := by rw [World.size_alloc]; omega
  have h1000 : l.length ≤ 1000 := by omega
  cases hb : hasB l x.u x.v
  · have HW := Lib.hid (withL_miss hb)
    rw [hb] at HF
    have hpl := place_le l ⟨x.u, x.v, 0⟩
    have HFn := Lib.hid hl.2.1
    clear hb hl
    generalize place l ⟨x.u, x.v, 0⟩ = i at *
    unfold Arc.val
    go_enter Tryz.func118, Tryz.ntmps118
    go_wp2_with (go_at_call 138; ((with_reducible refine HF.out.mono ?_); rintro e w' ⟨rfl, hb'⟩; have HB := Lib.hid hb'; have e1 := (hb'.cell (p := ⟨w.heap.size, 0, none⟩) hsz).trans d1; have e2 := (hb'.cell (p := ⟨w.heap.size, 1, none⟩) hsz).trans d2; have e3 := (hb'.cell (p := ⟨w.heap.size, 2, none⟩) hsz).trans d3; clear hb'))
    clear d1 d2 d3
    have HBB := Lib.hid (HA.out.trans (HB.out.mono HA.out.size))
    have HL2 := Lib.hid (HL.out.below HB.out (Nat.le_refl _))
    generalize w.alloc (.cells #[.int .i64 x.u, .int .i64 x.v, .int .u64 x.w] 60) = W1 at *
    have hwl := Nat.lt_of_lt_of_le hsz HB.out.size
    have b1 := Lib.hid ((Below.refl w'.heap.size w').drew)
    have b2 := Lib.hid ((((Below.refl w'.heap.size w').alloc (Nat.le_refl _) (.cells #[.int .i64 x.u, .int .i64 x.v, .int .u64 x.w] 60))).drew)
    obtain ⟨r1, r2, r3⟩ := made_one w'.drew x
    have hcA := Lib.hid (clone_any A c l.length l w'.drew rfl (HL2.out.below b1.out (Nat.le_refl _)) h1000)
    have hcB := Lib.hid (clone_any A c l.length l _ rfl (HL2.out.below b2.out (Nat.le_refl _)) h1000)
    have e1' : w'.drew.cell? ⟨w.heap.size, 0, none⟩ = some (.int .i64 x.u) := e1
    have e2' : w'.drew.cell? ⟨w.heap.size, 1, none⟩ = some (.int .i64 x.v) := e2
    have e3' : w'.drew.cell? ⟨w.heap.size, 2, none⟩ = some (.int .u64 x.w) := e3
    have hsd : w'.drew.heap.size = w'.heap.size := rfl
    have HBd := Lib.hid (HBB.out.trans (b1.out.mono HBB.out.size))
    have HBe := Lib.hid (HBB.out.trans (b2.out.mono HBB.out.size))
    clear r1 r2 r3
    go_region_with (first
      | (go_at_call 140; (with_reducible refine hcA.out.mono ?_); rintro e w3 ⟨B, d, rfl, ho, hb3⟩; have HI := Lib.hid (insA rfl hpl h40 HFn.out hx ho hb3.size); have HQ := Lib.hid (qA (.cells #[.int .i64 x.u, .int .i64 x.v, .int .u64 x.w] 60) HBd.out hb3); have g1 := (hb3.cell (p := ⟨w.heap.size, 0, none⟩) hwl).trans e1'; have g2 := (hb3.cell (p := ⟨w.heap.size, 1, none⟩) hwl).trans e2'; have g3 := (hb3.cell (p := ⟨w.heap.size, 2, none⟩) hwl).trans e3'; clear ho hb3)
      | (go_at_call 140; (with_reducible refine hcB.out.mono ?_); rintro e w3 ⟨B, d, rfl, ho, hb3⟩; have HI := Lib.hid (insB rfl hpl h40 HFn.out hx ho hb3); have HQ := Lib.hid (qB HBe.out hb3); clear ho hb3)
      | (go_at_call 139; (with_reducible refine HI.out.mono ?_); rintro e w4 ⟨B', d', rfl, h1, h2⟩; have H1 := Lib.hid h1; have H2 := Lib.hid (HQ.out _ h2); clear h1 h2))
    all_goals (go_wp2; go_ret; exact ⟨B', d', by rw [HW.out]; rfl, by rw [HW.out]; exact H1.out, H2.out⟩)
  · have HW := Lib.hid (withL_hit hb)
    rw [hb] at HF
    clear hb
    unfold Arc.val
    go_enter Tryz.func118, Tryz.ntmps118
    go_wp2_with (go_at_call 138; ((with_reducible refine HF.out.mono ?_); rintro e w' ⟨rfl, hb'⟩; have HB := Lib.hid hb'; clear hb'))
    go_ret
    exact ⟨A, c, by rw [HW.out]; rfl, by rw [HW.out]; exact HL.out.below HB.out (Nat.le_refl _), HA.out.trans (HB.out.mono HA.out.size)⟩
end Go.Proofs.YtpdfmfkoopdfgaaGreatDoor.Gr
end
section
namespace Go.Proofs.YtpdfmfkoopdfgaaGreatDoor.Gr
set_option maxRecDepth 100000
open Go.RowKit Aid

/-- With: the rows put down ahead of the k-th row. -/
def withUp (l : List Arc) (x : Arc) (p k : Nat) : List Arc := (putIn l p x).take (if p < k then k + 1 else k)
theorem putIn_get {l : List Arc} {x : Arc} {p : Nat} (hp : p ≤ l.length) (j : Nat) : (putIn l p x)[j]? = if j < p then l[j]? else if j = p then some x else l[j - 1]? := by
  unfold putIn
  have hl : (l.take p).length = p := by rw [List.length_take]; omega
  by_cases h : j < p
  · rw [List.getElem?_append_left (by omega), if_pos h, List.getElem?_take, if_pos h]
  · rw [List.getElem?_append_right (by omega), hl, if_neg h]
    by_cases h2 : j = p
    · subst h2; simp
    · rw [if_neg h2, show j - p = (j - p - 1) + 1 by omega, List.getElem?_cons_succ, List.getElem?_drop]
      congr 1; omega
theorem withUp_lo {l : List Arc} {x a : Arc} {p k : Nat} (hk : k < p) (hp : p ≤ l.length) (ha : l[k]? = some a) : withUp l x p (k + 1) = withUp l x p k ++ [a] := by
  unfold withUp
  rw [if_neg (by omega), if_neg (by omega), List.take_add_one, putIn_get hp, if_pos hk, ha]
  rfl
theorem withUp_at {l : List Arc} {x a : Arc} {p : Nat} (ha : l[p]? = some a) : withUp l x p (p + 1) = (withUp l x p p ++ [x]) ++ [a] := by
  have hp : p ≤ l.length := by have := (List.getElem?_eq_some_iff.1 ha).1; omega
  unfold withUp
  rw [if_pos (by omega), if_neg (by omega), List.take_add_one, List.take_add_one, putIn_get hp, putIn_get hp, if_neg (by omega), if_pos rfl, if_neg (by omega), if_neg (by omega), Nat.add_sub_cancel, ha]
  rfl
theorem withUp_hi {l : List Arc} {x a : Arc} {p k : Nat} (hk : p < k) (ha : l[k]? = some a) : withUp l x p (k + 1) = withUp l x p k ++ [a] := by
  have hp : p ≤ l.length := by have := (List.getElem?_eq_some_iff.1 ha).1; omega
  unfold withUp
  rw [if_pos (by omega), if_pos (by omega), List.take_add_one, putIn_get hp, if_neg (by omega), if_neg (by omega), Nat.add_sub_cancel, ha]
  rfl
theorem withUp_all {l : List Arc} {x : Arc} {p : Nat} (hp : p < l.length) : withUp l x p l.length = putIn l p x := by
  unfold withUp
  rw [if_pos hp]
  exact List.take_of_length_le (by rw [putIn_length _ (by omega)]; exact Nat.le_refl _)
theorem withUp_end {l : List Arc} {x : Arc} : withUp l x l.length l.length ++ [x] = putIn l l.length x := by
  unfold withUp putIn
  rw [if_neg (by omega), List.take_length, List.drop_length]
  rw [List.take_append_of_le_length (Nat.le_refl _), List.take_length]
theorem withUp_len {l : List Arc} {x : Arc} {p k : Nat} (hk : k ≤ l.length) : (withUp l x p k).length ≤ l.length + 1 := by
  unfold withUp
  rw [List.length_take]
  have : (if p < k then k + 1 else k) ≤ l.length + 1 := by split <;> omega
  omega
theorem one_row (w : World) (a : Arc) : Sl (w.alloc (.cells #[.int .i64 a.u, .int .i64 a.v, .int .u64 a.w] 60)) (some ⟨w.heap.size, 0, none⟩) (flat [a]) := fun _ => ⟨_, _, rfl, fun j u hu => by
  rw [Nat.zero_add, World.cell?_alloc_new]
  rw [← hu]
  simp [flat]⟩
theorem row_one (a : Arc) : ∀ u ∈ flat [a], u.oneCell' = true := fun u hu => by
  simp [flat] at hu
  rcases hu with rfl | rfl | rfl <;> rfl
theorem own_any60 {w : World} {base : Nat} {v : Value} {n : Nat} {xs : List Value} (h : w.ownsRow base 60 3 v n xs) : ∃ A c, v = .slice A n c := by
  rcases own_any3 h with ⟨rfl, rfl⟩ | ⟨g, c, rfl⟩
  · exact ⟨none, 0, rfl⟩
  · exact ⟨_, _, rfl⟩
theorem hasB_none {l : List Arc} {u v : Int} (h : hasB l u v = false) : ∀ a ∈ l, ¬ (a.u = u ∧ a.v = v) := by
  unfold hasB rowOf at h
  rw [Option.isSome_eq_false_iff, Option.isNone_iff_eq_none, List.find?_eq_none] at h
  intro a ha hc
  exact h a ha (by simpa using hc)
theorem place_both {x : Arc} : ∀ {l : List Arc}, (∀ a ∈ l, ¬ (a.u = x.u ∧ a.v = x.v)) → (∀ (k : Nat) (a : Arc), k < place l ⟨x.u, x.v, 0⟩ → l[k]? = some a → Lt a x) ∧ ∀ (a : Arc), l[place l ⟨x.u, x.v, 0⟩]? = some a → Lt x a
  | [], _ => ⟨fun k a _ h => by simp at h, fun a h => by simp at h⟩
  | b :: l, hno => by
    obtain ⟨i1, i2⟩ := place_both (l := l) (fun a ha => hno a (List.mem_cons_of_mem _ ha))
    unfold place at i1 i2 ⊢
    by_cases hb : Lt b ⟨x.u, x.v, 0⟩
    · rw [List.takeWhile_cons_of_pos (by simpa using hb), List.length_cons]
      refine ⟨fun k a hk ha => ?_, fun a ha => i2 a (by simpa using ha)⟩
      rcases k with _ | k
      · simp at ha; subst ha
        unfold Lt at hb ⊢; exact hb
      · exact i1 k a (by omega) (by simpa using ha)
    · rw [List.takeWhile_cons_of_neg (by simpa using hb)]
      refine ⟨fun k a hk _ => by simp at hk, fun a ha => ?_⟩
      simp at ha; subst ha
      have h0 := hno b (List.mem_cons_self ..)
      unfold Lt at hb ⊢
      simp only [] at hb
      omega
theorem drewN_heap (w : World) : ∀ n, (w.drewN n).heap = w.heap
  | 0 => rfl
  | n + 1 => drewN_heap w n
theorem below_drewN' {B : Nat} {w W : World} (h : Below B w W) : ∀ n, Below B w (W.drewN n)
  | 0 => h
  | n + 1 => (below_drewN' h n).drew
theorem own_drewN {w : World} {base : Nat} {e : TypeId} {size : Nat} {v : Value} {n : Nat} {xs : List Value} (h : w.ownsRow base e size v n xs) : ∀ k, (w.drewN k).ownsRow base e size v n xs
  | 0 => h
  | k + 1 => (own_drewN h k).drew
theorem row_at (W : World) (a : Arc) (n : Nat) (h : W.heap.size = n) : Sl (W.alloc (.cells #[.int .i64 a.u, .int .i64 a.v, .int .u64 a.w] 60)) (some ⟨n, 0, none⟩) (flat [a]) := by subst h; exact one_row W a
/-- A row appended to a row of the call's own. -/
theorem wpList_app60 {ops : Array Oper} {rest : List Oper} {o : Oper} {a : Act} {w : World} {Q : Exit → Act → World → Prop} (hg : Region.wanted o (yielded ops a.tmps) = true) (s x : Operand)
    (ho : o.op = .call { callee := .builtin .append, args := #[s, x], argTypes := #[22, 22] }) (base : Nat) (cu : List Arc) (A : Option Addr) (c g n : Nat) (row : Arc) (hn : n = cu.length) (hs : a.eval s = .slice A n c)
    (hown : w.ownsRow base 60 3 (.slice A n c) n (flat cu)) (hx : a.eval x = .slice (some ⟨g, 0, none⟩) 1 1) (hrow : Sl w (some ⟨g, 0, none⟩) (flat [row])) (h40 : n ≤ 100000) (hb : base ≤ w.heap.size)
    (h : ∀ A' c' w', w'.ownsRow base 60 3 (.slice A' (n + 1) c') (n + 1) (flat (cu ++ [row])) → Below base w w' → wpList Tryz.prog ops Q rest (a.put o.dst (.slice A' (n + 1) c')) w') : wpList Tryz.prog ops Q (o :: rest) a w := by
  obtain ⟨i0, hi0, hz0, hz1, hz2⟩ := info_parts arc_info
  refine wpList_append_sl _ hg s x 22 ho base 60 i0 _ 3 24 Tryz.underlying22 hi0 hz0 hz1 hz2 rfl (by decide) _ n _ hs hown (some ⟨g, 0, none⟩) 1 1 (flat [row]) hx rfl hrow (row_one row) (by unfold maxLen; omega) (by omega) hb (n + 1) rfl ?_
  intro A5 c5 w5 hown5 hb5 _ _
  rw [← flat_append] at hown5
  exact h A5 c5 w5 hown5 hb5
theorem cellB {B : Nat} {w w1 w2 : World} {p : Addr} {v : Value} (hp : p.block < B) (h1 : Below B w w1) (h2 : Below B w w2) (hc : w1.cell? p = some v) : w2.cell? p = some v := (h2.cell hp).trans ((h1.cell hp).symm.trans hc)
structure WI (w : World) (l : List Arc) (x : Arc) (p k : Nat) (v : Value) (wr : World) : Prop where
  own : wr.ownsRow w.heap.size 60 3 v (withUp l x p k).length (flat (withUp l x p k))
  bel : Below w.heap.size w wr
set_option maxHeartbeats 400000 in
theorem refWith_any (A : Option Addr) (c n : Nat) (l : List Arc) (x : Arc) (w : World) (hn : n = l.length) (hl : Arcs w A l) (hs : Rises l) (h40 : l.length ≤ 999) (hx : x.Fine) (hno : hasB l x.u x.v = false) :
    Calls Tryz.prog 32 #[.slice A n c, x.val] w fun e w' => ∃ B d, e = .returned (.slice B (withL l x).length d) ∧ Arcs w' B (withL l x) ∧ Below w.heap.size w w' := by
  have HW := Lib.hid (withL_miss hno)
  have HPL := Lib.hid (putIn_length x (place_le l ⟨x.u, x.v, 0⟩))
  have hlo : Hid (∀ k a, k < place l ⟨x.u, x.v, 0⟩ → l[k]? = some a → Lt a x) := Lib.hid (place_both (hasB_none hno)).1
  have hhi : Hid (∀ a, l[place l ⟨x.u, x.v, 0⟩]? = some a → Lt x a) := Lib.hid (place_both (hasB_none hno)).2
  have PL := place_le l ⟨x.u, x.v, 0⟩
  have FN := Lib.hid (putIn_fine (i := place l ⟨x.u, x.v, 0⟩) hl.2.1 hx)
  have HL := Lib.hid hl
  obtain ⟨i0, hi0, hz0, hz1, hz2⟩ := info_parts arc_info
  clear hl hs hno
  subst hn
  generalize place l ⟨x.u, x.v, 0⟩ = p at *
  have B0 := Lib.hid ((Below.refl w.heap.size w).alloc (Nat.le_refl _) (.cells #[.int .i64 x.u, .int .i64 x.v, .int .u64 x.w] 60))
  have d1 : (w.alloc (.cells #[.int .i64 x.u, .int .i64 x.v, .int .u64 x.w] 60)).heap[w.heap.size]? = some (.cells #[.int .i64 x.u, .int .i64 x.v, .int .u64 x.w] 60) := heap_alloc_new _ _
  have D1 := Lib.hid d1
  have RO := row_one
  clear d1
  unfold Arc.val
  go_enter Tryz.func32, Tryz.ntmps32
  go_wp2
  have HWL : w.heap.size < (w.alloc (.cells #[.int .i64 x.u, .int .i64 x.v, .int .u64 x.w] 60)).heap.size := by rw [World.size_alloc]; omega
  generalize w.alloc (.cells #[.int .i64 x.u, .int .i64 x.v, .int .u64 x.w] 60) = W1 at *
  go_loopw [5, 6, 7] (fun v ld iv wr => ∃ k : Nat, k ≤ l.length ∧ iv = .int .i64 k ∧ ld = .bool (decide (p < k)) ∧ WI W1 l x p k v wr) (fun _ _ iv _ => l.length - (intOf iv).toNat)
  case atStart => exact ⟨0, Nat.zero_le _, rfl, by simp, World.ownsRow_nil _ _ _ _, Below.refl _ _⟩
  case round =>
    obtain ⟨k, hk, rfl, rfl, hi⟩ := hrel
    obtain ⟨T, tc, hT⟩ := own_any60 hi.own
    subst hT
    have HI := Lib.hid hi
    have bl := (hi.bel.block _ (Array.getElem?_eq_some_iff.1 D1.out).1).trans D1.out
    have e1 : wr.cell? ⟨w.heap.size, 0, none⟩ = some (.int .i64 x.u) := by unfold World.cell?; simp [bl]
    have e2 : wr.cell? ⟨w.heap.size, 1, none⟩ = some (.int .i64 x.v) := by unfold World.cell?; simp [bl]
    have e3 : wr.cell? ⟨w.heap.size, 2, none⟩ = some (.int .u64 x.w) := by unfold World.cell?; simp [bl]
    have HBW := Lib.hid (B0.out.trans (hi.bel.mono B0.out.size))
    have wl := Lib.hid (withUp_len (x := x) (p := p) hk)
    clear hi bl
    by_cases hlt : k < l.length
    · obtain ⟨a, ha⟩ : ∃ a, l[k]? = some a := ⟨_, List.getElem?_eq_getElem hlt⟩
      obtain ⟨b, off, hA, hcs⟩ := (HL.out.below HBW.out (Nat.le_refl _)).2.2 (by omega)
      obtain ⟨c1, c2, c3⟩ := hcs k a ha
      have bw : b < w.heap.size := by
        obtain ⟨b', off', hA', hcs'⟩ := HL.out.2.2 (by omega)
        have := World.block_lt_of_cell? _ _ (hcs' k a ha).1
        rw [hA] at hA'; injection hA' with hA'; injection hA' with hA'; subst hA'
        exact this
      clear hcs
      subst hA
      have i0' : (0 : Int) ≤ (k : Int) := by omega
      have i1' : (k : Int) < (l.length : Int) := by omega
      have kz : IntKind.i64.wrap ((k : Int) + 1) = (k : Int) + 1 := by rw [IntKind.wrap_i64] <;> omega
      have BD : Hid (∀ q, Below W1.heap.size W1 (wr.drewN q)) := Lib.hid fun q => below_drewN' HI.out.bel q
      have OD : Hid (∀ q, (wr.drewN q).ownsRow W1.heap.size 60 3 (.slice T (withUp l x p k).length tc) (withUp l x p k).length (flat (withUp l x p k))) := Lib.hid fun q => own_drewN HI.out.own q
      have ZD : Hid (∀ q, (wr.drewN q).heap.size = wr.heap.size) := Lib.hid fun q => by rw [drewN_heap]
      rcases Nat.lt_trichotomy k p with q | q | q
      · have hlt2 := hlo.out k a q ha
        have HN := Lib.hid (withUp_lo (x := x) q PL ha)
        have dl : decide (p < k) = false := by simp; omega
        have dl2 : decide (p < k + 1) = false := by simp; omega
        clear ha
        generalize withUp l x p k = cu at *
        have m1 : cu.length ≤ 100000 := by have := wl.out; omega
        rw [dl]
        have g1 : decide (x.u < a.u) = false := by unfold Lt at hlt2; simp; omega
        rcases (show (a.u ≠ x.u) ∨ (a.u = x.u ∧ a.v < x.v) by unfold Lt at hlt2; omega) with h3 | ⟨h3, h4⟩
        · have g2 : (a.u == x.u) = false := by simpa using h3
          go_wp2
          go_quiet (fail)
          go_wp2_with (
            at_builtin
            refine wpList_app60 rfl (.tmp 50) (.tmp 55) rfl W1.heap.size cu T tc wr.heap.size _ a rfl rfl ((OD.out _).alloc _) rfl (row_at _ _ _ (ZD.out _)) m1 ((BD.out _).alloc (BD.out _).size _).size ?_
            intro A5 c5 w5 hown5 hb5
            have HO5 := Lib.hid hown5
            have HB5 := Lib.hid (((BD.out _).alloc (BD.out _).size _).trans hb5)
            clear hown5 hb5)
          go_roundw
          case rel => exact ⟨k + 1, by omega, by go_num, by rw [dl2], by rw [HN.out]; simpa using HO5.out, HB5.out⟩
          case measure => simp [intOf]; omega
        · have g2 : (a.u == x.u) = true := by simpa using h3
          have g3 : decide (x.v < a.v) = false := by simp; omega
          clear h3 h4
          go_wp2
          go_quiet (fail)
          go_wp2_with (
            at_builtin
            refine wpList_app60 rfl (.tmp 50) (.tmp 55) rfl W1.heap.size cu T tc wr.heap.size _ a rfl rfl ((OD.out _).alloc _) rfl (row_at _ _ _ (ZD.out _)) m1 ((BD.out _).alloc (BD.out _).size _).size ?_
            intro A5 c5 w5 hown5 hb5
            have HO5 := Lib.hid hown5
            have HB5 := Lib.hid (((BD.out _).alloc (BD.out _).size _).trans hb5)
            clear hown5 hb5)
          go_roundw
          case rel => exact ⟨k + 1, by omega, by go_num, by rw [dl2], by rw [HN.out]; simpa using HO5.out, HB5.out⟩
          case measure => simp [intOf]; omega
      · subst q
        have hlt2 := hhi.out a ha
        have HN := Lib.hid (withUp_at (x := x) ha)
        have dl : decide (k < k) = false := by simp
        have dl2 : decide (k < k + 1) = true := by simp
        clear ha
        generalize withUp l x k k = cu at *
        have m1 : cu.length ≤ 100000 := by have := wl.out; omega
        have m2 : cu.length + 1 ≤ 100000 := by have := wl.out; omega
        have HL1 : Hid (cu.length + 1 = (cu ++ [x]).length) := Lib.hid (by simp)
        rw [dl]
        rcases (show (x.u < a.u) ∨ (a.u = x.u ∧ x.v < a.v) by unfold Lt at hlt2; omega) with h3 | ⟨h3, h4⟩
        · have g1 : decide (x.u < a.u) = true := by simpa using h3
          go_wp2
          go_quiet (fail)
          go_wp2_with (first
           | (
            at_builtin
            refine wpList_app60 rfl (.tmp 46) (.tmp 48) rfl W1.heap.size cu T tc wr.heap.size _ x rfl rfl ((OD.out _).alloc _) rfl (row_at _ _ _ (ZD.out _)) m1 ((BD.out _).alloc (BD.out _).size _).size ?_
            intro A5 c5 w5 hown5 hb5
            have HO5 := Lib.hid hown5
            have HB5 := Lib.hid (((BD.out _).alloc (BD.out _).size _).trans hb5)
            have f2 := cellB (Nat.lt_trans bw HWL) HI.out.bel HB5.out c1
            have f3 := cellB (Nat.lt_trans bw HWL) HI.out.bel HB5.out c2
            have f4 := cellB (Nat.lt_trans bw HWL) HI.out.bel HB5.out c3
            clear hown5 hb5)
           | (
            at_builtin
            refine wpList_app60 rfl (.tmp 50) (.tmp 55) rfl W1.heap.size (cu ++ [x]) A5 c5 w5.heap.size _ a HL1.out rfl (HO5.out.alloc _) rfl (row_at _ _ _ rfl) m2 (HB5.out.alloc HB5.out.size _).size ?_
            intro A6 c6 w6 hown6 hb6
            have HO6 := Lib.hid hown6
            have HB6 := Lib.hid ((HB5.out.alloc HB5.out.size _).trans hb6)
            clear hown6 hb6))
          go_roundw
          case rel => exact ⟨k + 1, by omega, by go_num, by rw [dl2], by rw [HN.out]; simpa using HO6.out, HB6.out⟩
          case measure => simp [intOf]; omega
        · have g1 : decide (x.u < a.u) = false := by simp; omega
          have g2 : (a.u == x.u) = true := by simpa using h3
          have g3 : decide (x.v < a.v) = true := by simpa using h4
          clear h3 h4 hlt2
          go_wp2
          go_quiet (fail)
          go_wp2_with (first
           | (
            at_builtin
            refine wpList_app60 rfl (.tmp 46) (.tmp 48) rfl W1.heap.size cu T tc wr.heap.size _ x rfl rfl ((OD.out _).alloc _) rfl (row_at _ _ _ (ZD.out _)) m1 ((BD.out _).alloc (BD.out _).size _).size ?_
            intro A5 c5 w5 hown5 hb5
            have HO5 := Lib.hid hown5
            have HB5 := Lib.hid (((BD.out _).alloc (BD.out _).size _).trans hb5)
            have f2 := cellB (Nat.lt_trans bw HWL) HI.out.bel HB5.out c1
            have f3 := cellB (Nat.lt_trans bw HWL) HI.out.bel HB5.out c2
            have f4 := cellB (Nat.lt_trans bw HWL) HI.out.bel HB5.out c3
            clear hown5 hb5)
           | (
            at_builtin
            refine wpList_app60 rfl (.tmp 50) (.tmp 55) rfl W1.heap.size (cu ++ [x]) A5 c5 w5.heap.size _ a HL1.out rfl (HO5.out.alloc _) rfl (row_at _ _ _ rfl) m2 (HB5.out.alloc HB5.out.size _).size ?_
            intro A6 c6 w6 hown6 hb6
            have HO6 := Lib.hid hown6
            have HB6 := Lib.hid ((HB5.out.alloc HB5.out.size _).trans hb6)
            clear hown6 hb6))
          go_roundw
          case rel => exact ⟨k + 1, by omega, by go_num, by rw [dl2], by rw [HN.out]; simpa using HO6.out, HB6.out⟩
          case measure => simp [intOf]; omega
      · have HN := Lib.hid (withUp_hi (x := x) q ha)
        have dl : decide (p < k) = true := by simp; omega
        have dl2 : decide (p < k + 1) = true := by simp; omega
        clear ha
        generalize withUp l x p k = cu at *
        have m1 : cu.length ≤ 100000 := by have := wl.out; omega
        rw [dl]
        go_wp2
        go_quiet (fail)
        go_wp2_with (
            at_builtin
            refine wpList_app60 rfl (.tmp 50) (.tmp 55) rfl W1.heap.size cu T tc wr.heap.size _ a rfl rfl ((OD.out _).alloc _) rfl (row_at _ _ _ (ZD.out _)) m1 ((BD.out _).alloc (BD.out _).size _).size ?_
            intro A5 c5 w5 hown5 hb5
            have HO5 := Lib.hid hown5
            have HB5 := Lib.hid (((BD.out _).alloc (BD.out _).size _).trans hb5)
            clear hown5 hb5)
        go_roundw
        case rel => exact ⟨k + 1, by omega, by go_num, by rw [dl2], by rw [HN.out]; simpa using HO5.out, HB5.out⟩
        case measure => simp [intOf]; omega
    · obtain rfl : k = l.length := by omega
      by_cases hp : p < l.length
      · have dl : decide (p < l.length) = true := by simpa using hp
        have e := Lib.hid (withUp_all (x := x) hp)
        rw [dl]
        have HO5 := HI.out.own
        rw [e.out] at HO5 ⊢
        have HO5 := Lib.hid HO5
        go_wp2
        go_ret
        exact ⟨_, _, by rw [HW.out]; rfl, by rw [HW.out]; exact own_arcs (by have := HPL.out; omega) FN.out HO5.out, HBW.out⟩
      · obtain rfl : p = l.length := by omega
        have dl : decide (l.length < l.length) = false := by simp
        have e := Lib.hid (withUp_end (l := l) (x := x))
        rw [dl]
        have OD : Hid (wr.ownsRow W1.heap.size 60 3 (.slice T (withUp l x l.length l.length).length tc) (withUp l x l.length l.length).length (flat (withUp l x l.length l.length))) := Lib.hid HI.out.own
        generalize withUp l x l.length l.length = cu at *
        have m1 : cu.length ≤ 100000 := by have := wl.out; omega
        go_wp2_with (
          at_builtin
          refine wpList_app60 rfl (.tmp 59) (.tmp 61) rfl W1.heap.size cu T tc wr.heap.size _ x rfl rfl (OD.out.alloc _) rfl (row_at _ _ _ rfl) m1 (HI.out.bel.alloc HI.out.bel.size _).size ?_
          intro A5 c5 w5 hown5 hb5
          have HO5 := Lib.hid hown5
          have HB5 := Lib.hid ((HI.out.bel.alloc HI.out.bel.size _).trans hb5)
          clear hown5 hb5)
        go_ret
        have hl : (putIn l l.length x).length = cu.length + 1 := by rw [← e.out]; simp
        refine ⟨A5, c5, by rw [HW.out, hl]; rfl, ?_, B0.out.trans (HB5.out.mono B0.out.size)⟩
        rw [HW.out]
        refine own_arcs (c := c5) (by have := HPL.out; omega) FN.out (n := (putIn l l.length x).length) (base := W1.heap.size) ?_
        rw [hl, ← e.out]
        exact HO5.out
end Go.Proofs.YtpdfmfkoopdfgaaGreatDoor.Gr
end
