/- slices.Insert of one row, one contract; graph.with. -/
import Derived.Test.YtmlcghbhkpbaeaaIns2
import Derived.Deep.RegionWith
namespace Go.Proofs.Ytmlcghbhkpbaeaa
open Go.RowKit Aid

theorem putIn_fine {l : List Arc} {i : Nat} {x : Arc} (hf : ∀ a ∈ l, a.Fine) (hx : x.Fine) : ∀ a ∈ putIn l i x, a.Fine := fun a ha => by
  unfold putIn at ha
  rcases List.mem_append.1 ha with h | h
  · exact hf a (List.mem_of_mem_take h)
  · rcases List.mem_cons.1 h with rfl | h
    · exact hx
    · exact hf a (List.mem_of_mem_drop h)
theorem insert_any (base : Nat) (A : Option Addr) (c n i vb vc : Nat) (l : List Arc) (x : Arc) (w : World) (hn : n = l.length) (hi : i ≤ n) (h40 : l.length ≤ 999) (hf : ∀ a ∈ l, a.Fine) (hx : x.Fine)
    (ho : w.ownsRow base 41 3 (.slice A n c) n (flat l)) (hb : base ≤ w.heap.size) (hv : w.rangeAt vb 0 (flat [x])) (hap : ∀ g, A = some ⟨g, 0, none⟩ → vb ≠ g) (hsa : w.shape? vb = some (41, 3)) (hfa : w.frozen? ⟨vb, 0, none⟩ = false) (hfe : w.frozen? ⟨vb, 3, none⟩ = false) :
    Calls Try.prog 34 #[.slice A n c, .int .i64 i, .slice (some ⟨vb, 0, none⟩) 1 vc] w fun e w' => ∃ B d, e = .returned (.slice B (putIn l i x).length d) ∧ Arcs w' B (putIn l i x) ∧ Below base w w' := by
  subst hn
  have hpl := putIn_length (x := x) hi
  have hpf := putIn_fine (i := i) hf hx
  rcases Nat.eq_or_lt_of_le hi with h | h
  · subst h
    refine (insert_end base A c l.length vb vc (flat l) x w (by omega) ho hb hv).mono ?_
    rintro e w' ⟨B, d, rfl, h1, h2⟩
    have e1 : putIn l l.length x = l ++ [x] := by unfold putIn; rw [List.take_length, List.drop_length]
    rw [← flat_append, ← e1, ← hpl] at h1
    exact ⟨B, d, by rw [hpl], own_arcs (by omega) hpf h1, h2⟩
  · rcases own_any3 ho with ⟨_, hn⟩ | ⟨g, c', hv'⟩
    · omega
    · injection hv' with hA _ hc
      subst hA hc
      obtain ⟨h1, h2, h3, h4, h5, h6, h7⟩ := own_range ho
      by_cases hroom : l.length + 1 ≤ c
      · refine (insert_shift g c i vb vc 3 (c * 3) l x w h hroom h3 (hap g rfl) h5 h6 hv hsa h7 (by omega) hfa hfe).mono ?_
        rintro e w' ⟨rfl, rfl⟩
        refine ⟨_, c, by rw [hpl], arcs_range (by omega) hpf (shift_range hi hroom ((World.rangeAt_drew _ _ _ _).2 h5) ((World.there_drew _ _ _ _).2 h6)), ?_⟩
        exact below_set _ h1 _ _ (below_set _ h1 _ _ (Below.refl base w).drew)
      · refine (insert_grow g c i vb vc l x w h (by omega) (by omega) h2 h5 hv).mono ?_
        rintro e w' ⟨B, d, rfl, h8, h9⟩
        exact ⟨_, d, by rw [hpl], arcs_range (by omega) hpf h8, h9.mono hb⟩
/-- graph.with. -/
def withL (l : List Arc) (x : Arc) : List Arc := if hasB l x.u x.v then l else putIn l (place l ⟨x.u, x.v, 0⟩) x
theorem place_le (l : List Arc) (t : Arc) : place l t ≤ l.length := by
  unfold place
  exact (List.takeWhile_prefix _).length_le
theorem made_one (w : World) (x : Arc) : (w.alloc (.cells #[.int .i64 x.u, .int .i64 x.v, .int .u64 x.w] 41)).rangeAt w.heap.size 0 (flat [x]) ∧ (w.alloc (.cells #[.int .i64 x.u, .int .i64 x.v, .int .u64 x.w] 41)).shape? w.heap.size = some (41, 3) ∧ ∀ j, (w.alloc (.cells #[.int .i64 x.u, .int .i64 x.v, .int .u64 x.w] 41)).frozen? ⟨w.heap.size, j, none⟩ = false := by
  refine ⟨fun j v hj => ?_, ?_, fun j => ?_⟩
  · rw [Nat.zero_add, World.cell?_alloc_new, ← hj]
    simp [flat]
  · unfold World.shape?; rw [heap_alloc_new]; rfl
  · unfold World.frozen?; simp only []; rw [heap_alloc_new]; simp
abbrev ob (x : Arc) : Obj := .cells #[.int .i64 x.u, .int .i64 x.v, .int .u64 x.w] 41
theorem insA {base : Nat} {B : Option Addr} {d n i : Nat} {l : List Arc} {x : Arc} {w3 : World} (hn : n = l.length) (hi : i ≤ n) (h40 : l.length ≤ 999) (hf : ∀ a ∈ l, a.Fine) (hx : x.Fine)
    (ho : w3.ownsRow base 41 3 (.slice B n d) n (flat l)) (hb : base ≤ w3.heap.size) :
    Calls Try.prog 34 #[.slice B n d, .int .i64 i, .slice (some ⟨w3.heap.size, 0, none⟩) 1 1] (w3.alloc (.cells #[.int .i64 x.u, .int .i64 x.v, .int .u64 x.w] 41)) fun e w' => ∃ B' d', e = .returned (.slice B' (putIn l i x).length d') ∧ Arcs w' B' (putIn l i x) ∧ Below base (w3.alloc (.cells #[.int .i64 x.u, .int .i64 x.v, .int .u64 x.w] 41)) w' := by
  obtain ⟨r1, r2, r3⟩ := made_one w3 x
  refine insert_any base B d n i w3.heap.size 1 l x _ hn hi h40 hf hx (ho.alloc _) (by rw [World.size_alloc]; omega) r1 (fun g hg => ?_) r2 (r3 0) (r3 3)
  have := (ho.lt g (by rw [hg]; rfl)).2
  omega
theorem insB {B : Option Addr} {d n i : Nat} {l : List Arc} {x : Arc} {W0 w3 : World} (hn : n = l.length) (hi : i ≤ n) (h40 : l.length ≤ 999) (hf : ∀ a ∈ l, a.Fine) (hx : x.Fine)
    (ho : w3.ownsRow (W0.alloc (.cells #[.int .i64 x.u, .int .i64 x.v, .int .u64 x.w] 41)).drew.heap.size 41 3 (.slice B n d) n (flat l))
    (hb : Below (W0.alloc (.cells #[.int .i64 x.u, .int .i64 x.v, .int .u64 x.w] 41)).drew.heap.size (W0.alloc (.cells #[.int .i64 x.u, .int .i64 x.v, .int .u64 x.w] 41)).drew w3) :
    Calls Try.prog 34 #[.slice B n d, .int .i64 i, .slice (some ⟨W0.heap.size, 0, none⟩) 1 1] w3 fun e w' => ∃ B' d', e = .returned (.slice B' (putIn l i x).length d') ∧ Arcs w' B' (putIn l i x) ∧ Below (W0.alloc (.cells #[.int .i64 x.u, .int .i64 x.v, .int .u64 x.w] 41)).drew.heap.size w3 w' := by
  obtain ⟨r1, r2, r3⟩ := made_one W0 x
  have hlt : W0.heap.size < (W0.alloc (.cells #[.int .i64 x.u, .int .i64 x.v, .int .u64 x.w] 41)).drew.heap.size := by show W0.heap.size < (W0.alloc (.cells #[.int .i64 x.u, .int .i64 x.v, .int .u64 x.w] 41)).heap.size; rw [World.size_alloc]; omega
  have hbl := hb.block W0.heap.size hlt
  have hdr : (W0.alloc (.cells #[.int .i64 x.u, .int .i64 x.v, .int .u64 x.w] 41)).drew.heap = (W0.alloc (.cells #[.int .i64 x.u, .int .i64 x.v, .int .u64 x.w] 41)).heap := rfl
  rw [hdr] at hbl
  refine insert_any _ B d n i W0.heap.size 1 l x _ hn hi h40 hf hx ho hb.size (fun j v hj => (hb.cell (p := ⟨W0.heap.size, 0 + j, none⟩) hlt).trans (r1 j v hj)) (fun g hg => ?_) ?_ ?_ ?_
  · have := (ho.lt g (by rw [hg]; rfl)).1
    omega
  · unfold World.shape? at r2 ⊢; rw [hbl]; exact r2
  · have := r3 0; unfold World.frozen? at this ⊢; simp only [] at this ⊢; rw [hbl]; exact this
  · have := r3 3; unfold World.frozen? at this ⊢; simp only [] at this ⊢; rw [hbl]; exact this
theorem qA {w W0 w3 : World} (o : Obj) (h : Below w.heap.size w W0) (h3 : Below W0.heap.size W0 w3) : ∀ w4, Below W0.heap.size (w3.alloc o) w4 → Below w.heap.size w w4 := fun _ h4 => h.trans (((h3.alloc h3.size o).trans h4).mono h.size)
theorem qB {w W0 w3 : World} (h : Below w.heap.size w W0) (h3 : Below W0.heap.size W0 w3) : ∀ w4, Below W0.heap.size w3 w4 → Below w.heap.size w w4 := fun _ h4 => h.trans ((h3.trans h4).mono h.size)
theorem withL_hit {l : List Arc} {x : Arc} (h : hasB l x.u x.v = true) : withL l x = l := by unfold withL; rw [if_pos h]
theorem withL_miss {l : List Arc} {x : Arc} (h : hasB l x.u x.v = false) : withL l x = putIn l (place l ⟨x.u, x.v, 0⟩) x := by unfold withL; rw [if_neg (by rw [h]; simp)]
set_option maxHeartbeats 4000000 in
theorem with_any (A : Option Addr) (c n : Nat) (l : List Arc) (x : Arc) (w : World) (hn : n = l.length) (hl : Arcs w A l) (hs : Rises l) (h40 : l.length ≤ 999) (hx : x.Fine) :
    Calls Try.prog 21 #[.slice A n c, x.val] w fun e w' => ∃ B d, e = .returned (.slice B (withL l x).length d) ∧ Arcs w' B (withL l x) ∧ Below w.heap.size w w' := by
  subst hn
  have HA := Lib.hid ((Below.refl w.heap.size w).alloc (Nat.le_refl _) (.cells #[.int .i64 x.u, .int .i64 x.v, .int .u64 x.w] 41))
  have HL := Lib.hid (hl.below HA.out (Nat.le_refl _))
  have HF := Lib.hid (find_any A c l.length l x.u x.v _ rfl HL.out hs (by omega))
  have d1 : (w.alloc (.cells #[.int .i64 x.u, .int .i64 x.v, .int .u64 x.w] 41)).cell? ⟨w.heap.size, 0, none⟩ = some (.int .i64 x.u) := by rw [World.cell?_alloc_new]; rfl
  have d2 : (w.alloc (.cells #[.int .i64 x.u, .int .i64 x.v, .int .u64 x.w] 41)).cell? ⟨w.heap.size, 1, none⟩ = some (.int .i64 x.v) := by rw [World.cell?_alloc_new]; rfl
  have d3 : (w.alloc (.cells #[.int .i64 x.u, .int .i64 x.v, .int .u64 x.w] 41)).cell? ⟨w.heap.size, 2, none⟩ = some (.int .u64 x.w) := by rw [World.cell?_alloc_new]; rfl
  have hsz : w.heap.size < (w.alloc (.cells #[.int .i64 x.u, .int .i64 x.v, .int .u64 x.w] 41)).heap.size := by rw [World.size_alloc]; omega
  have h1000 : l.length ≤ 1000 := by omega
  cases hb : hasB l x.u x.v
  · have HW := Lib.hid (withL_miss hb)
    rw [hb] at HF
    have hpl := place_le l ⟨x.u, x.v, 0⟩
    have HFn := Lib.hid hl.2.1
    clear hb hl
    generalize place l ⟨x.u, x.v, 0⟩ = i at *
    unfold Arc.val
    go_enter Try.func21, Try.ntmps21
    go_wp2_with (go_at_call 25; ((with_reducible refine HF.out.mono ?_); rintro e w' ⟨rfl, hb'⟩; have HB := Lib.hid hb'; have e1 := (hb'.cell (p := ⟨w.heap.size, 0, none⟩) hsz).trans d1; have e2 := (hb'.cell (p := ⟨w.heap.size, 1, none⟩) hsz).trans d2; have e3 := (hb'.cell (p := ⟨w.heap.size, 2, none⟩) hsz).trans d3; clear hb'))
    clear d1 d2 d3
    have HBB := Lib.hid (HA.out.trans (HB.out.mono HA.out.size))
    have HL2 := Lib.hid (HL.out.below HB.out (Nat.le_refl _))
    generalize w.alloc (.cells #[.int .i64 x.u, .int .i64 x.v, .int .u64 x.w] 41) = W1 at *
    have hwl := Nat.lt_of_lt_of_le hsz HB.out.size
    have b1 := Lib.hid ((Below.refl w'.heap.size w').drew)
    have b2 := Lib.hid ((((Below.refl w'.heap.size w').alloc (Nat.le_refl _) (.cells #[.int .i64 x.u, .int .i64 x.v, .int .u64 x.w] 41))).drew)
    obtain ⟨r1, r2, r3⟩ := made_one w'.drew x
    have hcA := Lib.hid (clone_any A c l.length l w'.drew rfl (HL2.out.below b1.out (Nat.le_refl _)) h1000)
    have hcB := Lib.hid (clone_any A c l.length l _ rfl (HL2.out.below b2.out (Nat.le_refl _)) h1000)
    have e1' : w'.drew.cell? ⟨w.heap.size, 0, none⟩ = some (.int .i64 x.u) := e1
    have e2' : w'.drew.cell? ⟨w.heap.size, 1, none⟩ = some (.int .i64 x.v) := e2
    have e3' : w'.drew.cell? ⟨w.heap.size, 2, none⟩ = some (.int .u64 x.w) := e3
    have hsd : w'.drew.heap.size = w'.heap.size := rfl
    have HBd := Lib.hid (HBB.out.trans (b1.out.mono HBB.out.size))
    have HBe := Lib.hid (HBB.out.trans (b2.out.mono HBB.out.size))
    clear r1 r2 r3
    go_region_with (first
      | (go_at_call 35; (with_reducible refine hcA.out.mono ?_); rintro e w3 ⟨B, d, rfl, ho, hb3⟩; have HI := Lib.hid (insA rfl hpl h40 HFn.out hx ho hb3.size); have HQ := Lib.hid (qA (.cells #[.int .i64 x.u, .int .i64 x.v, .int .u64 x.w] 41) HBd.out hb3); have g1 := (hb3.cell (p := ⟨w.heap.size, 0, none⟩) hwl).trans e1'; have g2 := (hb3.cell (p := ⟨w.heap.size, 1, none⟩) hwl).trans e2'; have g3 := (hb3.cell (p := ⟨w.heap.size, 2, none⟩) hwl).trans e3'; clear ho hb3)
      | (go_at_call 35; (with_reducible refine hcB.out.mono ?_); rintro e w3 ⟨B, d, rfl, ho, hb3⟩; have HI := Lib.hid (insB rfl hpl h40 HFn.out hx ho hb3); have HQ := Lib.hid (qB HBe.out hb3); clear ho hb3)
      | (go_at_call 34; (with_reducible refine HI.out.mono ?_); rintro e w4 ⟨B', d', rfl, h1, h2⟩; have H1 := Lib.hid h1; have H2 := Lib.hid (HQ.out _ h2); clear h1 h2))
    all_goals (go_wp2; go_ret; exact ⟨B', d', by rw [HW.out]; rfl, by rw [HW.out]; exact H1.out, H2.out⟩)
  · have HW := Lib.hid (withL_hit hb)
    rw [hb] at HF
    clear hb
    unfold Arc.val
    go_enter Try.func21, Try.ntmps21
    go_wp2_with (go_at_call 25; ((with_reducible refine HF.out.mono ?_); rintro e w' ⟨rfl, hb'⟩; have HB := Lib.hid hb'; clear hb'))
    go_ret
    exact ⟨A, c, by rw [HW.out]; rfl, by rw [HW.out]; exact HL.out.below HB.out (Nat.le_refl _), HA.out.trans (HB.out.mono HA.out.size)⟩
end Go.Proofs.Ytmlcghbhkpbaeaa
