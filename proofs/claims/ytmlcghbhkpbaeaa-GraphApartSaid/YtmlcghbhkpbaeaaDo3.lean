/- graph.Do: HasE, Near. -/
import Derived.Test.YtmlcghbhkpbaeaaDo2
namespace Go.Proofs.Ytmlcghbhkpbaeaa
open Go.RowKit Aid

theorem hasAll {A : Option Addr} {c : Nat} {l : List Arc} {w : World} {k u v x : Int} (hl : Arcs w A l) (hs : Rises l) (h40 : l.length ≤ 1000) : ∀ W, Below (w2 w k u v x).heap.size (w2 w k u v x) W → Calls Try.prog 14 #[.slice A l.length c, .int .i64 u, .int .i64 v] W fun e w' => e = .returned (.tuple #[.int .u64 (hasW l u v), .bool (hasB l u v)]) ∧ Below W.heap.size W w' := fun W h => has_any A c l.length l u v W rfl (hl.below (after2 W h).2.2 (Nat.le_refl _)) hs h40
theorem nearAll {A : Option Addr} {c : Nat} {l : List Arc} {w : World} {k u v x : Int} (hl : Arcs w A l) (h40 : l.length ≤ 1000) : ∀ W, Below (w2 w k u v x).heap.size (w2 w k u v x) W → Calls Try.prog 15 #[.slice A l.length c, .int .i64 u] W fun e w' => ∃ B d, e = .returned (.slice B (near l u).length d) ∧ w'.ownsRow W.heap.size 3 1 (.slice B (near l u).length d) (near l u).length ((near l u).map (Value.int .i64)) ∧ Below W.heap.size W w' := fun W h => near_any A c l.length l u W rfl (hl.below (after2 W h).2.2 (Nat.le_refl _)) h40
theorem w2_size (w : World) (k u v x : Int) : (w2 w k u v x).heap.size = w.heap.size + 2 := by unfold w2; rw [World.size_alloc, World.size_alloc]
/-- A list that lies in memory from a block on. -/
def SlFrom (base : Nat) (w : World) (B : Option Addr) (xs : List Value) : Prop := 0 < xs.length → ∃ g, B = some ⟨g, 0, none⟩ ∧ base ≤ g ∧ ∀ j u, xs[j]? = some u → w.cell? ⟨g, 0 + j, none⟩ = some u
theorem SlFrom.of {w : World} {base : Nat} {B : Option Addr} {n d : Nat} {xs : List Value} (h : w.ownsRow base 3 1 (.slice B n d) n xs) : SlFrom base w B xs := fun hp => by
  rcases own_form h with ⟨_, _, rfl⟩ | ⟨g, cap, hv, hg, _, _, _, hc, _⟩
  · simp at hp
  · injection hv with hA
    exact ⟨g, hA, hg, hc⟩
theorem SlFrom.set {w : World} {base : Nat} {B : Option Addr} {xs : List Value} (h : SlFrom base w B xs) (b : Nat) (hb : b < base) (vs : List Value) (o : Nat) : SlFrom base (w.setCells b o vs) B xs := fun hp => by
  obtain ⟨g, hB, hg, hc⟩ := h hp
  exact ⟨g, hB, hg, fun j u hu => (World.cell?_setCells_out b vs o w ⟨g, 0 + j, none⟩ (fun e _ => absurd (show g = b from e) (by omega))).trans (hc j u hu)⟩
theorem SlFrom.sl {w : World} {base : Nat} {B : Option Addr} {xs : List Value} (h : SlFrom base w B xs) : Sl w B xs := fun hp => by
  obtain ⟨g, hB, _, hc⟩ := h hp
  exact ⟨g, 0, hB, hc⟩
theorem ZeroOut.set {w : World} {b b' : Nat} (h : ZeroOut w b) (hb : b ≠ b') (vs : List Value) (o : Nat) : ZeroOut (w.setCells b' o vs) b := by
  obtain ⟨h1, h2, h3, h4, h5, f1, f2, f3, f4, f5⟩ := h
  have hc : ∀ j v, w.cell? ⟨b, j, none⟩ = some v → (w.setCells b' o vs).cell? ⟨b, j, none⟩ = some v := fun j v hv => (World.cell?_setCells_out b' vs o w ⟨b, j, none⟩ (fun e _ => absurd (show b = b' from e) hb)).trans hv
  have hf : ∀ j, w.frozen? ⟨b, j, none⟩ = false → (w.setCells b' o vs).frozen? ⟨b, j, none⟩ = false := fun j hj => by rw [World.frozen?_setCells]; exact hj
  exact ⟨hc _ _ h1, hc _ _ h2, hc _ _ h3, hc _ _ h4, hc _ _ h5, hf _ f1, hf _ f2, hf _ f3, hf _ f4, hf _ f5⟩
set_option maxHeartbeats 8000000 in
set_option maxRecDepth 100000 in
theorem do_hase (A : Option Addr) (c n : Nat) (l : List Arc) (u v x : Int) (w : World) (hn : n = l.length) (hl : Arcs w A l) (hs : Rises l) (h40 : l.length ≤ 999) (hq : keysB ⟨16, u, v, x⟩ = true) : Calls Try.prog 10 #[.slice A n c, .agg #[.int .i64 16, .int .i64 u, .int .i64 v, .int .u64 x]] w (DoPost l ⟨16, u, v, x⟩ w) := by
  subst hn
  have HG := Lib.hid (doG_plain (l := l) (o := ⟨16, u, v, x⟩) (by simp) (by simp) hq (.inr (.inl rfl)))
  have HAn : Hid (doA l ⟨16, u, v, x⟩ = ⟨0, hasB l u v, 0, hasW l u v, []⟩) := Lib.hid (by
    unfold doA
    rw [if_neg (by simp), if_neg (by rw [hq]; simp), if_neg (by simp), if_neg (by simp), if_neg (by simp), if_pos rfl])
  have HL := Lib.hid hl
  have T := Lib.hid (@after3 w 16 u v x)
  have HK := Lib.hid (keys_any ⟨16, u, v, x⟩ (w2 w 16 u v x))
  have HIu := Lib.hid (fun W h => @inAll A c l w 16 u v x hl hs (by omega) W h u)
  have HIv := Lib.hid (fun W h => @inAll A c l w 16 u v x hl hs (by omega) W h v)
  rw [hq] at HK
  unfold Op.val at HK
  simp only at HK
  have HH := Lib.hid (@hasAll A c l w 16 u v x hl hs (by omega))
  clear hl hq hs
  generalize inB l u = U at HIu
  generalize inB l v = V at HIv
  generalize hasB l u v = P at HAn HH
  generalize hasW l u v = Q at HAn HH
  cases U
  · go_enter Try.func10, Try.ntmps10
    go_wp2_with (first
      | (go_at_call 19; ((with_reducible refine HK.out.mono ?_); rintro e w' ⟨rfl, hb⟩; have Hc := Lib.hid hb; obtain ⟨hz, ⟨c1, c2, c3, c4⟩, _⟩ := T.out _ hb; have HZ' := Lib.hid hz; clear hb hz))
      | (go_at_call 20; ((with_reducible refine (HIu.out _ Hc.out).mono ?_); rintro e w4 ⟨rfl, hb⟩; have Hd := Lib.hid (Hc.out.trans (hb.mono Hc.out.size)); clear hb Hc HZ' c1 c2 c3 c4; have Hc := Hd; clear Hd; obtain ⟨hz, ⟨c1, c2, c3, c4⟩, _⟩ := T.out _ Hc.out; have HZ' := Lib.hid hz; have Ha := Lib.hid (Hc.out.alloc Hc.out.size (.cells #[.int .i64 0, .bool false, .int .i64 0, .int .u64 0, .slice none 0 0] 31)); obtain ⟨_, ⟨e1, e2, e3, e4⟩, _⟩ := T.out _ Ha.out; clear hz))
      | (go_at_call 20; ((with_reducible refine (HIv.out _ Hc.out).mono ?_); rintro e w5 ⟨rfl, hb⟩; clear Ha e1 e2 e3 e4; have Hd := Lib.hid (Hc.out.trans (hb.mono Hc.out.size)); clear hb Hc HZ' c1 c2 c3 c4; have Hc := Hd; clear Hd; obtain ⟨hz, ⟨c1, c2, c3, c4⟩, _⟩ := T.out _ Hc.out; have HZ' := Lib.hid hz; have Ha := Lib.hid (Hc.out.alloc Hc.out.size (.cells #[.int .i64 0, .bool false, .int .i64 0, .int .u64 0, .slice none 0 0] 31)); obtain ⟨_, ⟨e1, e2, e3, e4⟩, _⟩ := T.out _ Ha.out; clear hz))
      | (go_at_call 14; ((with_reducible refine (HH.out _ Ha.out).mono ?_); rintro e w6 ⟨rfl, hb⟩; have Hd := Lib.hid (Ha.out.trans (hb.mono Ha.out.size)); clear hb; obtain ⟨hz9, _, hb9⟩ := T.out _ Hd.out; have HZ9 := Lib.hid hz9; have HB9 := Lib.hid hb9; obtain ⟨z1, z2, z3, z4, z5, f1, f2, f3, f4, f5⟩ := hz9; clear hb9)))
    all_goals (try simp only [Exit.inBlock, Exit.then])
    all_goals exact do_fin w6 A none c 0 (w.heap.size + 1) 0 P 0 Q [] (by rw [HG.out]; rfl) rfl rfl HZ9.out (Nat.le_succ _) HB9.out (by rw [HG.out]; exact HL.out.below HB9.out (Nat.le_refl _)) HAn.out (sl_nil _ _)
  · go_enter Try.func10, Try.ntmps10
    go_wp2_with (first
      | (go_at_call 19; ((with_reducible refine HK.out.mono ?_); rintro e w' ⟨rfl, hb⟩; have Hc := Lib.hid hb; obtain ⟨hz, ⟨c1, c2, c3, c4⟩, _⟩ := T.out _ hb; have HZ' := Lib.hid hz; clear hb hz))
      | (go_at_call 20; ((with_reducible refine (HIu.out _ Hc.out).mono ?_); rintro e w4 ⟨rfl, hb⟩; have Hd := Lib.hid (Hc.out.trans (hb.mono Hc.out.size)); clear hb Hc HZ' c1 c2 c3 c4; have Hc := Hd; clear Hd; obtain ⟨hz, ⟨c1, c2, c3, c4⟩, _⟩ := T.out _ Hc.out; have HZ' := Lib.hid hz; have Ha := Lib.hid (Hc.out.alloc Hc.out.size (.cells #[.int .i64 0, .bool true, .int .i64 0, .int .u64 0, .slice none 0 0] 31)); obtain ⟨_, ⟨e1, e2, e3, e4⟩, _⟩ := T.out _ Ha.out; clear hz))
      | (go_at_call 20; ((with_reducible refine (HIv.out _ Hc.out).mono ?_); rintro e w5 ⟨rfl, hb⟩; clear Ha e1 e2 e3 e4; have Hd := Lib.hid (Hc.out.trans (hb.mono Hc.out.size)); clear hb Hc HZ' c1 c2 c3 c4; have Hc := Hd; clear Hd; obtain ⟨hz, ⟨c1, c2, c3, c4⟩, _⟩ := T.out _ Hc.out; have HZ' := Lib.hid hz; have Ha := Lib.hid (Hc.out.alloc Hc.out.size (.cells #[.int .i64 0, .bool true, .int .i64 0, .int .u64 0, .slice none 0 0] 31)); obtain ⟨_, ⟨e1, e2, e3, e4⟩, _⟩ := T.out _ Ha.out; clear hz))
      | (go_at_call 14; ((with_reducible refine (HH.out _ Ha.out).mono ?_); rintro e w6 ⟨rfl, hb⟩; have Hd := Lib.hid (Ha.out.trans (hb.mono Ha.out.size)); clear hb; obtain ⟨hz9, _, hb9⟩ := T.out _ Hd.out; have HZ9 := Lib.hid hz9; have HB9 := Lib.hid hb9; obtain ⟨z1, z2, z3, z4, z5, f1, f2, f3, f4, f5⟩ := hz9; clear hb9)))
    all_goals (try simp only [Exit.inBlock, Exit.then])
    all_goals exact do_fin w6 A none c 0 (w.heap.size + 1) 0 P 0 Q [] (by rw [HG.out]; rfl) rfl rfl HZ9.out (Nat.le_succ _) HB9.out (by rw [HG.out]; exact HL.out.below HB9.out (Nat.le_refl _)) HAn.out (sl_nil _ _)
set_option maxHeartbeats 8000000 in
set_option maxRecDepth 100000 in
theorem do_near (A : Option Addr) (c n : Nat) (l : List Arc) (u v x : Int) (w : World) (hn : n = l.length) (hl : Arcs w A l) (hs : Rises l) (h40 : l.length ≤ 999) (hq : keysB ⟨17, u, v, x⟩ = true) : Calls Try.prog 10 #[.slice A n c, .agg #[.int .i64 17, .int .i64 u, .int .i64 v, .int .u64 x]] w (DoPost l ⟨17, u, v, x⟩ w) := by
  subst hn
  have HG := Lib.hid (doG_plain (l := l) (o := ⟨17, u, v, x⟩) (by simp) (by simp) hq (.inr (.inr rfl)))
  have HAn : Hid (doA l ⟨17, u, v, x⟩ = ⟨0, inB l u, 0, 0, near l u⟩) := Lib.hid (by
    unfold doA
    rw [if_neg (by simp), if_neg (by rw [hq]; simp), if_neg (by simp), if_neg (by simp), if_pos rfl])
  have HL := Lib.hid hl
  have T := Lib.hid (@after3 w 17 u v x)
  have HK := Lib.hid (keys_any ⟨17, u, v, x⟩ (w2 w 17 u v x))
  have HIu := Lib.hid (fun W h => @inAll A c l w 17 u v x hl hs (by omega) W h u)
  have HIv := Lib.hid (fun W h => @inAll A c l w 17 u v x hl hs (by omega) W h v)
  rw [hq] at HK
  unfold Op.val at HK
  simp only at HK
  have HH := Lib.hid (@nearAll A c l w 17 u v x hl (by omega))
  clear hl hq hs
  generalize inB l u = U at HAn HIu
  generalize inB l v = V at HIv
  generalize near l u = nr at HAn HH
  cases U
  · go_enter Try.func10, Try.ntmps10
    go_wp2_with (first
      | (go_at_call 19; ((with_reducible refine HK.out.mono ?_); rintro e w' ⟨rfl, hb⟩; have Hc := Lib.hid hb; obtain ⟨hz, ⟨c1, c2, c3, c4⟩, _⟩ := T.out _ hb; have HZ' := Lib.hid hz; clear hb hz))
      | (go_at_call 20; ((with_reducible refine (HIu.out _ Hc.out).mono ?_); rintro e w4 ⟨rfl, hb⟩; have Hd := Lib.hid (Hc.out.trans (hb.mono Hc.out.size)); clear hb Hc HZ' c1 c2 c3 c4; have Hc := Hd; clear Hd; obtain ⟨hz, ⟨c1, c2, c3, c4⟩, _⟩ := T.out _ Hc.out; have HZ' := Lib.hid hz; have Ha := Lib.hid (Hc.out.alloc Hc.out.size (.cells #[.int .i64 0, .bool false, .int .i64 0, .int .u64 0, .slice none 0 0] 31)); obtain ⟨_, ⟨e1, e2, e3, e4⟩, _⟩ := T.out _ Ha.out; clear hz))
      | (go_at_call 20; ((with_reducible refine (HIv.out _ Hc.out).mono ?_); rintro e w5 ⟨rfl, hb⟩; clear Ha e1 e2 e3 e4; have Hd := Lib.hid (Hc.out.trans (hb.mono Hc.out.size)); clear hb Hc HZ' c1 c2 c3 c4; have Hc := Hd; clear Hd; obtain ⟨hz, ⟨c1, c2, c3, c4⟩, _⟩ := T.out _ Hc.out; have HZ' := Lib.hid hz; have Ha := Lib.hid (Hc.out.alloc Hc.out.size (.cells #[.int .i64 0, .bool false, .int .i64 0, .int .u64 0, .slice none 0 0] 31)); obtain ⟨_, ⟨e1, e2, e3, e4⟩, _⟩ := T.out _ Ha.out; clear hz))
      | (go_at_call 15; ((with_reducible refine (HH.out _ Ha.out).mono ?_); rintro e w6 ⟨B, d, rfl, ho, hb⟩; have sw4 : w4.heap.size < (w4.alloc (.cells #[.int .i64 0, .bool false, .int .i64 0, .int .u64 0, .slice none 0 0] 31)).heap.size := by rw [World.size_alloc]; omega)
         have HO := Lib.hid ho
         clear ho
         have Hd := Lib.hid (Ha.out.trans (hb.mono Ha.out.size)); have t1 := (hb.cell (p := ⟨w4.heap.size, 0, none⟩) sw4).trans (show (w4.alloc (.cells #[.int .i64 0, .bool false, .int .i64 0, .int .u64 0, .slice none 0 0] 31)).cell? ⟨w4.heap.size, 0, none⟩ = some (.int .i64 0) from (World.cell?_alloc_new _ _ _ _).trans rfl); have t2 := (hb.cell (p := ⟨w4.heap.size, 1, none⟩) sw4).trans (show (w4.alloc (.cells #[.int .i64 0, .bool false, .int .i64 0, .int .u64 0, .slice none 0 0] 31)).cell? ⟨w4.heap.size, 1, none⟩ = some (.bool false) from (World.cell?_alloc_new _ _ _ _).trans rfl); have t3 := (hb.cell (p := ⟨w4.heap.size, 2, none⟩) sw4).trans (show (w4.alloc (.cells #[.int .i64 0, .bool false, .int .i64 0, .int .u64 0, .slice none 0 0] 31)).cell? ⟨w4.heap.size, 2, none⟩ = some (.int .i64 0) from (World.cell?_alloc_new _ _ _ _).trans rfl); have t4 := (hb.cell (p := ⟨w4.heap.size, 3, none⟩) sw4).trans (show (w4.alloc (.cells #[.int .i64 0, .bool false, .int .i64 0, .int .u64 0, .slice none 0 0] 31)).cell? ⟨w4.heap.size, 3, none⟩ = some (.int .u64 0) from (World.cell?_alloc_new _ _ _ _).trans rfl); have t5 := (hb.cell (p := ⟨w4.heap.size, 4, none⟩) sw4).trans (show (w4.alloc (.cells #[.int .i64 0, .bool false, .int .i64 0, .int .u64 0, .slice none 0 0] 31)).cell? ⟨w4.heap.size, 4, none⟩ = some (.slice none 0 0) from (World.cell?_alloc_new _ _ _ _).trans rfl); have tz := keepFrozen hb sw4 4 (show (w4.alloc (.cells #[.int .i64 0, .bool false, .int .i64 0, .int .u64 0, .slice none 0 0] 31)).frozen? ⟨w4.heap.size, 4, none⟩ = false from by unfold World.frozen?; simp only []; rw [heap_alloc_new]; simp)
         have hsz := hb.size
         clear hb
         obtain ⟨hz9, _, hb9⟩ := T.out _ Hd.out
         have HZr := Lib.hid hz9
         have HBr := Lib.hid hb9
         clear hb9 hz9))
    have hsz2 : w.heap.size + 2 ≤ w4.heap.size := by have := Hc.out.size; rw [w2_size] at this; exact this
    have hne : w.heap.size + 1 ≠ w4.heap.size := by omega
    have hbx : w.heap.size ≤ w4.heap.size := by omega
    have HZ9 := Lib.hid (HZr.out.set hne [.slice B nr.length d] 4)
    have HB9 := Lib.hid (below_set w4.heap.size hbx [.slice B nr.length d] 4 HBr.out)
    have HS := Lib.hid (((SlFrom.of HO.out).set w4.heap.size sw4 [.slice B nr.length d] 4).set (w.heap.size + 1) (by omega) [.int .i64 0, .bool false, .int .i64 0, .int .u64 0, .slice B nr.length d] 0).sl
    have T1 : (w6.setCell ⟨w4.heap.size, 4, none⟩ (.slice B nr.length d)).cell? ⟨w4.heap.size, 0, none⟩ = some (.int .i64 0) := (World.cell?_setCell_other _ _ _ _ (by simp)).trans t1
    have T2 : (w6.setCell ⟨w4.heap.size, 4, none⟩ (.slice B nr.length d)).cell? ⟨w4.heap.size, 1, none⟩ = some (.bool false) := (World.cell?_setCell_other _ _ _ _ (by simp)).trans t2
    have T3 : (w6.setCell ⟨w4.heap.size, 4, none⟩ (.slice B nr.length d)).cell? ⟨w4.heap.size, 2, none⟩ = some (.int .i64 0) := (World.cell?_setCell_other _ _ _ _ (by simp)).trans t3
    have T4 : (w6.setCell ⟨w4.heap.size, 4, none⟩ (.slice B nr.length d)).cell? ⟨w4.heap.size, 3, none⟩ = some (.int .u64 0) := (World.cell?_setCell_other _ _ _ _ (by simp)).trans t4
    have T5 : (w6.setCell ⟨w4.heap.size, 4, none⟩ (.slice B nr.length d)).cell? ⟨w4.heap.size, 4, none⟩ = some (.slice B nr.length d) := World.cell?_setCell_same _ _ _ t5
    have W9 : w6.setCells w4.heap.size 4 [.slice B nr.length d] = w6.setCell ⟨w4.heap.size, 4, none⟩ (.slice B nr.length d) := rfl
    rw [W9] at HZ9 HB9 HS
    clear W9 t1 t2 t3 t4 t5 tz
    generalize w6.setCell ⟨w4.heap.size, 4, none⟩ (.slice B nr.length d) = w7 at HZ9 HB9 HS T1 T2 T3 T4 T5 ⊢
    obtain ⟨z1, z2, z3, z4, z5, f1, f2, f3, f4, f5⟩ := HZ9.out
    go_region
    all_goals go_wp2
    all_goals (try simp only [Exit.inBlock, Exit.then])
    all_goals exact do_finD w7 A B c d (w.heap.size + 1) 0 false 0 0 nr (by rw [HG.out]; rfl) rfl rfl HZ9.out (Nat.le_succ _) HB9.out (by rw [HG.out]; exact HL.out.below HB9.out (Nat.le_refl _)) HAn.out (HS.out)
  · go_enter Try.func10, Try.ntmps10
    go_wp2_with (first
      | (go_at_call 19; ((with_reducible refine HK.out.mono ?_); rintro e w' ⟨rfl, hb⟩; have Hc := Lib.hid hb; obtain ⟨hz, ⟨c1, c2, c3, c4⟩, _⟩ := T.out _ hb; have HZ' := Lib.hid hz; clear hb hz))
      | (go_at_call 20; ((with_reducible refine (HIu.out _ Hc.out).mono ?_); rintro e w4 ⟨rfl, hb⟩; have Hd := Lib.hid (Hc.out.trans (hb.mono Hc.out.size)); clear hb Hc HZ' c1 c2 c3 c4; have Hc := Hd; clear Hd; obtain ⟨hz, ⟨c1, c2, c3, c4⟩, _⟩ := T.out _ Hc.out; have HZ' := Lib.hid hz; have Ha := Lib.hid (Hc.out.alloc Hc.out.size (.cells #[.int .i64 0, .bool true, .int .i64 0, .int .u64 0, .slice none 0 0] 31)); obtain ⟨_, ⟨e1, e2, e3, e4⟩, _⟩ := T.out _ Ha.out; clear hz))
      | (go_at_call 20; ((with_reducible refine (HIv.out _ Hc.out).mono ?_); rintro e w5 ⟨rfl, hb⟩; clear Ha e1 e2 e3 e4; have Hd := Lib.hid (Hc.out.trans (hb.mono Hc.out.size)); clear hb Hc HZ' c1 c2 c3 c4; have Hc := Hd; clear Hd; obtain ⟨hz, ⟨c1, c2, c3, c4⟩, _⟩ := T.out _ Hc.out; have HZ' := Lib.hid hz; have Ha := Lib.hid (Hc.out.alloc Hc.out.size (.cells #[.int .i64 0, .bool true, .int .i64 0, .int .u64 0, .slice none 0 0] 31)); obtain ⟨_, ⟨e1, e2, e3, e4⟩, _⟩ := T.out _ Ha.out; clear hz))
      | (go_at_call 15; ((with_reducible refine (HH.out _ Ha.out).mono ?_); rintro e w6 ⟨B, d, rfl, ho, hb⟩; have sw5 : w5.heap.size < (w5.alloc (.cells #[.int .i64 0, .bool true, .int .i64 0, .int .u64 0, .slice none 0 0] 31)).heap.size := by rw [World.size_alloc]; omega)
         have HO := Lib.hid ho
         clear ho
         have Hd := Lib.hid (Ha.out.trans (hb.mono Ha.out.size)); have t1 := (hb.cell (p := ⟨w5.heap.size, 0, none⟩) sw5).trans (show (w5.alloc (.cells #[.int .i64 0, .bool true, .int .i64 0, .int .u64 0, .slice none 0 0] 31)).cell? ⟨w5.heap.size, 0, none⟩ = some (.int .i64 0) from (World.cell?_alloc_new _ _ _ _).trans rfl); have t2 := (hb.cell (p := ⟨w5.heap.size, 1, none⟩) sw5).trans (show (w5.alloc (.cells #[.int .i64 0, .bool true, .int .i64 0, .int .u64 0, .slice none 0 0] 31)).cell? ⟨w5.heap.size, 1, none⟩ = some (.bool true) from (World.cell?_alloc_new _ _ _ _).trans rfl); have t3 := (hb.cell (p := ⟨w5.heap.size, 2, none⟩) sw5).trans (show (w5.alloc (.cells #[.int .i64 0, .bool true, .int .i64 0, .int .u64 0, .slice none 0 0] 31)).cell? ⟨w5.heap.size, 2, none⟩ = some (.int .i64 0) from (World.cell?_alloc_new _ _ _ _).trans rfl); have t4 := (hb.cell (p := ⟨w5.heap.size, 3, none⟩) sw5).trans (show (w5.alloc (.cells #[.int .i64 0, .bool true, .int .i64 0, .int .u64 0, .slice none 0 0] 31)).cell? ⟨w5.heap.size, 3, none⟩ = some (.int .u64 0) from (World.cell?_alloc_new _ _ _ _).trans rfl); have t5 := (hb.cell (p := ⟨w5.heap.size, 4, none⟩) sw5).trans (show (w5.alloc (.cells #[.int .i64 0, .bool true, .int .i64 0, .int .u64 0, .slice none 0 0] 31)).cell? ⟨w5.heap.size, 4, none⟩ = some (.slice none 0 0) from (World.cell?_alloc_new _ _ _ _).trans rfl); have tz := keepFrozen hb sw5 4 (show (w5.alloc (.cells #[.int .i64 0, .bool true, .int .i64 0, .int .u64 0, .slice none 0 0] 31)).frozen? ⟨w5.heap.size, 4, none⟩ = false from by unfold World.frozen?; simp only []; rw [heap_alloc_new]; simp)
         have hsz := hb.size
         clear hb
         obtain ⟨hz9, _, hb9⟩ := T.out _ Hd.out
         have HZr := Lib.hid hz9
         have HBr := Lib.hid hb9
         clear hb9 hz9))
    have hsz2 : w.heap.size + 2 ≤ w5.heap.size := by have := Hc.out.size; rw [w2_size] at this; exact this
    have hne : w.heap.size + 1 ≠ w5.heap.size := by omega
    have hbx : w.heap.size ≤ w5.heap.size := by omega
    have HZ9 := Lib.hid (HZr.out.set hne [.slice B nr.length d] 4)
    have HB9 := Lib.hid (below_set w5.heap.size hbx [.slice B nr.length d] 4 HBr.out)
    have HS := Lib.hid (((SlFrom.of HO.out).set w5.heap.size sw5 [.slice B nr.length d] 4).set (w.heap.size + 1) (by omega) [.int .i64 0, .bool true, .int .i64 0, .int .u64 0, .slice B nr.length d] 0).sl
    have T1 : (w6.setCell ⟨w5.heap.size, 4, none⟩ (.slice B nr.length d)).cell? ⟨w5.heap.size, 0, none⟩ = some (.int .i64 0) := (World.cell?_setCell_other _ _ _ _ (by simp)).trans t1
    have T2 : (w6.setCell ⟨w5.heap.size, 4, none⟩ (.slice B nr.length d)).cell? ⟨w5.heap.size, 1, none⟩ = some (.bool true) := (World.cell?_setCell_other _ _ _ _ (by simp)).trans t2
    have T3 : (w6.setCell ⟨w5.heap.size, 4, none⟩ (.slice B nr.length d)).cell? ⟨w5.heap.size, 2, none⟩ = some (.int .i64 0) := (World.cell?_setCell_other _ _ _ _ (by simp)).trans t3
    have T4 : (w6.setCell ⟨w5.heap.size, 4, none⟩ (.slice B nr.length d)).cell? ⟨w5.heap.size, 3, none⟩ = some (.int .u64 0) := (World.cell?_setCell_other _ _ _ _ (by simp)).trans t4
    have T5 : (w6.setCell ⟨w5.heap.size, 4, none⟩ (.slice B nr.length d)).cell? ⟨w5.heap.size, 4, none⟩ = some (.slice B nr.length d) := World.cell?_setCell_same _ _ _ t5
    have W9 : w6.setCells w5.heap.size 4 [.slice B nr.length d] = w6.setCell ⟨w5.heap.size, 4, none⟩ (.slice B nr.length d) := rfl
    rw [W9] at HZ9 HB9 HS
    clear W9 t1 t2 t3 t4 t5 tz
    generalize w6.setCell ⟨w5.heap.size, 4, none⟩ (.slice B nr.length d) = w7 at HZ9 HB9 HS T1 T2 T3 T4 T5 ⊢
    obtain ⟨z1, z2, z3, z4, z5, f1, f2, f3, f4, f5⟩ := HZ9.out
    go_region
    all_goals go_wp2
    all_goals (try simp only [Exit.inBlock, Exit.then])
    all_goals exact do_finD w7 A B c d (w.heap.size + 1) 0 true 0 0 nr (by rw [HG.out]; rfl) rfl rfl HZ9.out (Nat.le_succ _) HB9.out (by rw [HG.out]; exact HL.out.below HB9.out (Nat.le_refl _)) HAn.out (HS.out)
end Go.Proofs.Ytmlcghbhkpbaeaa
