/- GDo5. -/
import Derived.Test.YtpdfmfkoopdfgaaGreatDoorB16
set_option linter.unusedVariables false
namespace Go.Proofs.YtpdfmfkoopdfgaaGreatDoor.Gr
set_option maxRecDepth 100000
open Go.RowKit Aid

theorem outAll1 {A : Option Addr} {c : Nat} {l : List Arc} {w : World} {k u v x : Int} (hl : Arcs w A l) (h40 : l.length ≤ 1000) : ∀ W, Below (w2 w k u v x).heap.size (w2 w k u v x) W → Calls Tryz.prog 119 #[.slice A l.length c, .func (.func 120) #[] #[.pointer (some ⟨w.heap.size, 0, none⟩)]] W fun e w' => ∃ B d, e = .returned (.slice B (kept l (ends ⟨k, u, v, x⟩)).length d) ∧ Arcs w' B (kept l (ends ⟨k, u, v, x⟩)) ∧ Below W.heap.size W w' := fun W h => without_any 120 _ call23 _ A c l.length l W rfl (hl.below (after2 W h).2.2 (Nat.le_refl _)) h40 (says1 (after2 W h).2.1)
theorem outAll2 {A : Option Addr} {c : Nat} {l : List Arc} {w : World} {k u v x : Int} (hl : Arcs w A l) (h40 : l.length ≤ 1000) : ∀ W, Below (w2 w k u v x).heap.size (w2 w k u v x) W → Calls Tryz.prog 119 #[.slice A l.length c, .func (.func 123) #[] #[.pointer (some ⟨w.heap.size, 0, none⟩)]] W fun e w' => ∃ B d, e = .returned (.slice B (kept l (isE ⟨k, u, v, x⟩)).length d) ∧ Arcs w' B (kept l (isE ⟨k, u, v, x⟩)) ∧ Below W.heap.size W w' := fun W h => without_any 123 _ call24 _ A c l.length l W rfl (hl.below (after2 W h).2.2 (Nat.le_refl _)) h40 (says2 (after2 W h).2.1)
set_option maxHeartbeats 8000000 in
set_option maxRecDepth 100000 in
theorem do_reme (A : Option Addr) (c n : Nat) (l : List Arc) (u v x : Int) (w : World) (hn : n = l.length) (hl : Arcs w A l) (hs : Rises l) (h40 : l.length ≤ 999) (hq : keysB ⟨15, u, v, x⟩ = true) : Calls Tryz.prog 96 #[.slice A n c, .agg #[.int .i64 15, .int .i64 u, .int .i64 v, .int .u64 x]] w (DoPost l ⟨15, u, v, x⟩ w) := by
  subst hn
  have hg : doG l ⟨15, u, v, x⟩ = if (inB l u && inB l v) = true then kept l (isE ⟨15, u, v, x⟩) else l := by
    unfold doG both
    rw [if_neg (by simp [hq]), if_neg (by simp), if_neg (by simp), if_neg (by simp)]
    by_cases hh : (inB l u && inB l v) = true
    · rw [if_pos ⟨rfl, hh⟩, if_pos hh]
    · rw [if_neg (fun e => hh e.2), if_neg hh]
  have ha : doA l ⟨15, u, v, x⟩ = if (inB l u && inB l v) = true then ⟨0, false, 0, 0, []⟩ else ⟨5, false, 0, 0, []⟩ := by
    unfold doA both
    rw [if_neg (by simp), if_neg (by rw [hq]; simp), if_neg (by simp), if_neg (by simp), if_neg (by simp), if_neg (by simp)]
    by_cases hh : (inB l u && inB l v) = true
    · rw [if_neg (by rw [hh]; simp), if_pos hh]
    · rw [if_pos (by simpa using hh), if_neg hh]
  have HL := Lib.hid hl
  have T := Lib.hid (@after3 w 15 u v x)
  have HK := Lib.hid (keys_any ⟨15, u, v, x⟩ (w2 w 15 u v x))
  have HIu := Lib.hid (fun W h => @inAll A c l w 15 u v x hl hs (by omega) W h u)
  have HIv := Lib.hid (fun W h => @inAll A c l w 15 u v x hl hs (by omega) W h v)
  rw [hq] at HK
  unfold Op.val at HK
  simp only at HK
  have HH := Lib.hid (@outAll2 A c l w 15 u v x hl (by omega))
  clear hl hq hs
  generalize inB l u = U at hg ha HIu
  generalize inB l v = V at hg ha HIv
  generalize kept l (isE ⟨15, u, v, x⟩) = M at hg HH
  cases U
  · have HG := Lib.hid (show doG l ⟨15, u, v, x⟩ = l from hg.trans (by simp))
    have HAn := Lib.hid (show doA l ⟨15, u, v, x⟩ = ⟨5, false, 0, 0, []⟩ from ha.trans (by simp))
    clear hg ha
    go_enter Tryz.func96, Tryz.ntmps96
    go_wp2_with (first
      | (go_at_call 116; ((with_reducible refine HK.out.mono ?_); rintro e w' ⟨rfl, hb⟩; have Hc := Lib.hid hb; obtain ⟨hz, ⟨c1, c2, c3, c4⟩, _⟩ := T.out _ hb; have HZ' := Lib.hid hz; clear hb hz))
      | (go_at_call 117; ((with_reducible refine (HIu.out _ Hc.out).mono ?_); rintro e w4 ⟨rfl, hb⟩; have Hd := Lib.hid (Hc.out.trans (hb.mono Hc.out.size)); clear hb Hc HZ' c1 c2 c3 c4; have Hc := Hd; clear Hd; obtain ⟨hz, ⟨c1, c2, c3, c4⟩, _⟩ := T.out _ Hc.out; have HZ' := Lib.hid hz; have Ha := Lib.hid (Hc.out.alloc Hc.out.size (.cells #[.int .i64 0, .bool false, .int .i64 0, .int .u64 0, .slice none 0 0] 41)); obtain ⟨hz9, ⟨e1, e2, e3, e4⟩, hb9⟩ := T.out _ Ha.out; have HZ9 := Lib.hid hz9; have HB9 := Lib.hid hb9; obtain ⟨z1, z2, z3, z4, z5, f1, f2, f3, f4, f5⟩ := hz9; clear hb9; clear hz))
      | (go_at_call 117; ((with_reducible refine (HIv.out _ Hc.out).mono ?_); rintro e w5 ⟨rfl, hb⟩; clear Ha e1 e2 e3 e4 HZ9 HB9 z1 z2 z3 z4 z5 f1 f2 f3 f4 f5; have Hd := Lib.hid (Hc.out.trans (hb.mono Hc.out.size)); clear hb Hc HZ' c1 c2 c3 c4; have Hc := Hd; clear Hd; obtain ⟨hz, ⟨c1, c2, c3, c4⟩, _⟩ := T.out _ Hc.out; have HZ' := Lib.hid hz; have Ha := Lib.hid (Hc.out.alloc Hc.out.size (.cells #[.int .i64 0, .bool false, .int .i64 0, .int .u64 0, .slice none 0 0] 41)); obtain ⟨hz9, ⟨e1, e2, e3, e4⟩, hb9⟩ := T.out _ Ha.out; have HZ9 := Lib.hid hz9; have HB9 := Lib.hid hb9; obtain ⟨z1, z2, z3, z4, z5, f1, f2, f3, f4, f5⟩ := hz9; clear hb9; clear hz)))
    all_goals (try simp only [Exit.inBlock, Exit.then])
    all_goals exact do_fin (w4.alloc (.cells #[.int .i64 0, .bool false, .int .i64 0, .int .u64 0, .slice none 0 0] 41)) A none c 0 (w.heap.size + 1) 5 false 0 0 [] (by rw [HG.out]; rfl) rfl rfl HZ9.out (Nat.le_succ _) HB9.out (by rw [HG.out]; exact HL.out.below HB9.out (Nat.le_refl _)) HAn.out (sl_nil _ _)
  · cases V
    · have HG := Lib.hid (show doG l ⟨15, u, v, x⟩ = l from hg.trans (by simp))
      have HAn := Lib.hid (show doA l ⟨15, u, v, x⟩ = ⟨5, false, 0, 0, []⟩ from ha.trans (by simp))
      clear hg ha
      go_enter Tryz.func96, Tryz.ntmps96
      go_wp2_with (first
      | (go_at_call 116; ((with_reducible refine HK.out.mono ?_); rintro e w' ⟨rfl, hb⟩; have Hc := Lib.hid hb; obtain ⟨hz, ⟨c1, c2, c3, c4⟩, _⟩ := T.out _ hb; have HZ' := Lib.hid hz; clear hb hz))
      | (go_at_call 117; ((with_reducible refine (HIu.out _ Hc.out).mono ?_); rintro e w4 ⟨rfl, hb⟩; have Hd := Lib.hid (Hc.out.trans (hb.mono Hc.out.size)); clear hb Hc HZ' c1 c2 c3 c4; have Hc := Hd; clear Hd; obtain ⟨hz, ⟨c1, c2, c3, c4⟩, _⟩ := T.out _ Hc.out; have HZ' := Lib.hid hz; have Ha := Lib.hid (Hc.out.alloc Hc.out.size (.cells #[.int .i64 0, .bool true, .int .i64 0, .int .u64 0, .slice none 0 0] 41)); obtain ⟨hz9, ⟨e1, e2, e3, e4⟩, hb9⟩ := T.out _ Ha.out; have HZ9 := Lib.hid hz9; have HB9 := Lib.hid hb9; obtain ⟨z1, z2, z3, z4, z5, f1, f2, f3, f4, f5⟩ := hz9; clear hb9; clear hz))
      | (go_at_call 117; ((with_reducible refine (HIv.out _ Hc.out).mono ?_); rintro e w5 ⟨rfl, hb⟩; clear Ha e1 e2 e3 e4 HZ9 HB9 z1 z2 z3 z4 z5 f1 f2 f3 f4 f5; have Hd := Lib.hid (Hc.out.trans (hb.mono Hc.out.size)); clear hb Hc HZ' c1 c2 c3 c4; have Hc := Hd; clear Hd; obtain ⟨hz, ⟨c1, c2, c3, c4⟩, _⟩ := T.out _ Hc.out; have HZ' := Lib.hid hz; have Ha := Lib.hid (Hc.out.alloc Hc.out.size (.cells #[.int .i64 0, .bool true, .int .i64 0, .int .u64 0, .slice none 0 0] 41)); obtain ⟨hz9, ⟨e1, e2, e3, e4⟩, hb9⟩ := T.out _ Ha.out; have HZ9 := Lib.hid hz9; have HB9 := Lib.hid hb9; obtain ⟨z1, z2, z3, z4, z5, f1, f2, f3, f4, f5⟩ := hz9; clear hb9; clear hz)))
      all_goals (try simp only [Exit.inBlock, Exit.then])
      all_goals exact do_fin (w5.alloc (.cells #[.int .i64 0, .bool true, .int .i64 0, .int .u64 0, .slice none 0 0] 41)) A none c 0 (w.heap.size + 1) 5 false 0 0 [] (by rw [HG.out]; rfl) rfl rfl HZ9.out (Nat.le_succ _) HB9.out (by rw [HG.out]; exact HL.out.below HB9.out (Nat.le_refl _)) HAn.out (sl_nil _ _)
    · have HG := Lib.hid (show doG l ⟨15, u, v, x⟩ = M from hg.trans (by simp))
      have HAn := Lib.hid (show doA l ⟨15, u, v, x⟩ = ⟨0, false, 0, 0, []⟩ from ha.trans (by simp))
      clear hg ha
      go_enter Tryz.func96, Tryz.ntmps96
      go_wp2_with (first
      | (go_at_call 116; ((with_reducible refine HK.out.mono ?_); rintro e w' ⟨rfl, hb⟩; have Hc := Lib.hid hb; obtain ⟨hz, ⟨c1, c2, c3, c4⟩, _⟩ := T.out _ hb; have HZ' := Lib.hid hz; clear hb hz))
      | (go_at_call 117; ((with_reducible refine (HIu.out _ Hc.out).mono ?_); rintro e w4 ⟨rfl, hb⟩; have Hd := Lib.hid (Hc.out.trans (hb.mono Hc.out.size)); clear hb Hc HZ' c1 c2 c3 c4; have Hc := Hd; clear Hd; obtain ⟨hz, ⟨c1, c2, c3, c4⟩, _⟩ := T.out _ Hc.out; have HZ' := Lib.hid hz; have Ha := Lib.hid (Hc.out.alloc Hc.out.size (.cells #[.int .i64 0, .bool true, .int .i64 0, .int .u64 0, .slice none 0 0] 41)); obtain ⟨_, ⟨e1, e2, e3, e4⟩, _⟩ := T.out _ Ha.out; clear hz))
      | (go_at_call 117; ((with_reducible refine (HIv.out _ Hc.out).mono ?_); rintro e w5 ⟨rfl, hb⟩; clear Ha e1 e2 e3 e4; have Hd := Lib.hid (Hc.out.trans (hb.mono Hc.out.size)); clear hb Hc HZ' c1 c2 c3 c4; have Hc := Hd; clear Hd; obtain ⟨hz, ⟨c1, c2, c3, c4⟩, _⟩ := T.out _ Hc.out; have HZ' := Lib.hid hz; have Ha := Lib.hid (Hc.out.alloc Hc.out.size (.cells #[.int .i64 0, .bool true, .int .i64 0, .int .u64 0, .slice none 0 0] 41)); obtain ⟨_, ⟨e1, e2, e3, e4⟩, _⟩ := T.out _ Ha.out; clear hz))
      | (go_at_call 119; ((with_reducible refine (HH.out _ Ha.out).mono ?_); rintro e w6 ⟨B, d, rfl, h1, hb⟩; have H1 := Lib.hid h1; have Hd := Lib.hid (Ha.out.trans (hb.mono Ha.out.size)); clear hb h1; obtain ⟨hz9, _, hb9⟩ := T.out _ Hd.out; have HZ9 := Lib.hid hz9; have HB9 := Lib.hid hb9; obtain ⟨z1, z2, z3, z4, z5, f1, f2, f3, f4, f5⟩ := hz9; clear hb9)))
      all_goals (try simp only [Exit.inBlock, Exit.then])
      all_goals exact do_fin w6 B none d 0 (w.heap.size + 1) 0 false 0 0 [] (by rw [HG.out]; rfl) rfl rfl HZ9.out (Nat.le_succ _) HB9.out (by rw [HG.out]; exact H1.out) HAn.out (sl_nil _ _)
set_option maxHeartbeats 8000000 in
set_option maxRecDepth 100000 in
theorem do_remv (A : Option Addr) (c n : Nat) (l : List Arc) (u v x : Int) (w : World) (hn : n = l.length) (hl : Arcs w A l) (hs : Rises l) (h40 : l.length ≤ 999) (hq : keysB ⟨12, u, v, x⟩ = true) : Calls Tryz.prog 96 #[.slice A n c, .agg #[.int .i64 12, .int .i64 u, .int .i64 v, .int .u64 x]] w (DoPost l ⟨12, u, v, x⟩ w) := by
  subst hn
  have HG : Hid (doG l ⟨12, u, v, x⟩ = kept l (ends ⟨12, u, v, x⟩)) := Lib.hid (by
    unfold doG
    rw [if_neg (by simp [hq]), if_neg (by simp), if_pos rfl])
  have HAn : Hid (doA l ⟨12, u, v, x⟩ = ⟨0, inB l u, 0, 0, []⟩) := Lib.hid (by
    unfold doA
    rw [if_neg (by simp), if_neg (by rw [hq]; simp), if_neg (by simp), if_pos (by simp)])
  have HL := Lib.hid hl
  have T := Lib.hid (@after3 w 12 u v x)
  have HK := Lib.hid (keys_any ⟨12, u, v, x⟩ (w2 w 12 u v x))
  have HIu := Lib.hid (fun W h => @inAll A c l w 12 u v x hl hs (by omega) W h u)
  have HIv := Lib.hid (fun W h => @inAll A c l w 12 u v x hl hs (by omega) W h v)
  rw [hq] at HK
  unfold Op.val at HK
  simp only at HK
  have HH := Lib.hid (@outAll1 A c l w 12 u v x hl (by omega))
  clear hl hq hs
  generalize inB l u = U at HAn HIu
  generalize inB l v = V at HIv
  generalize kept l (ends ⟨12, u, v, x⟩) = M at HG HH
  cases U
  · go_enter Tryz.func96, Tryz.ntmps96
    go_wp2_with (first
      | (go_at_call 116; ((with_reducible refine HK.out.mono ?_); rintro e w' ⟨rfl, hb⟩; have Hc := Lib.hid hb; obtain ⟨hz, ⟨c1, c2, c3, c4⟩, _⟩ := T.out _ hb; have HZ' := Lib.hid hz; clear hb hz))
      | (go_at_call 117; ((with_reducible refine (HIu.out _ Hc.out).mono ?_); rintro e w4 ⟨rfl, hb⟩; have Hd := Lib.hid (Hc.out.trans (hb.mono Hc.out.size)); clear hb Hc HZ' c1 c2 c3 c4; have Hc := Hd; clear Hd; obtain ⟨hz, ⟨c1, c2, c3, c4⟩, _⟩ := T.out _ Hc.out; have HZ' := Lib.hid hz; have Ha := Lib.hid (Hc.out.alloc Hc.out.size (.cells #[.int .i64 0, .bool false, .int .i64 0, .int .u64 0, .slice none 0 0] 41)); obtain ⟨_, ⟨e1, e2, e3, e4⟩, _⟩ := T.out _ Ha.out; clear hz))
      | (go_at_call 117; ((with_reducible refine (HIv.out _ Hc.out).mono ?_); rintro e w5 ⟨rfl, hb⟩; clear Ha e1 e2 e3 e4; have Hd := Lib.hid (Hc.out.trans (hb.mono Hc.out.size)); clear hb Hc HZ' c1 c2 c3 c4; have Hc := Hd; clear Hd; obtain ⟨hz, ⟨c1, c2, c3, c4⟩, _⟩ := T.out _ Hc.out; have HZ' := Lib.hid hz; have Ha := Lib.hid (Hc.out.alloc Hc.out.size (.cells #[.int .i64 0, .bool false, .int .i64 0, .int .u64 0, .slice none 0 0] 41)); obtain ⟨_, ⟨e1, e2, e3, e4⟩, _⟩ := T.out _ Ha.out; clear hz)))
    have sw4 : w4.heap.size < (w4.alloc (.cells #[.int .i64 0, .bool false, .int .i64 0, .int .u64 0, .slice none 0 0] 41)).drew.heap.size := by
      show w4.heap.size < (w4.alloc (.cells #[.int .i64 0, .bool false, .int .i64 0, .int .u64 0, .slice none 0 0] 41)).heap.size
      rw [World.size_alloc]; omega
    have t1 : (w4.alloc (.cells #[.int .i64 0, .bool false, .int .i64 0, .int .u64 0, .slice none 0 0] 41)).cell? ⟨w4.heap.size, 0, none⟩ = some (.int .i64 0) := (World.cell?_alloc_new _ _ _ _).trans rfl
    have t2 : (w4.alloc (.cells #[.int .i64 0, .bool false, .int .i64 0, .int .u64 0, .slice none 0 0] 41)).cell? ⟨w4.heap.size, 1, none⟩ = some (.bool false) := (World.cell?_alloc_new _ _ _ _).trans rfl
    have t3 : (w4.alloc (.cells #[.int .i64 0, .bool false, .int .i64 0, .int .u64 0, .slice none 0 0] 41)).cell? ⟨w4.heap.size, 2, none⟩ = some (.int .i64 0) := (World.cell?_alloc_new _ _ _ _).trans rfl
    have t4 : (w4.alloc (.cells #[.int .i64 0, .bool false, .int .i64 0, .int .u64 0, .slice none 0 0] 41)).cell? ⟨w4.heap.size, 3, none⟩ = some (.int .u64 0) := (World.cell?_alloc_new _ _ _ _).trans rfl
    have t5 : (w4.alloc (.cells #[.int .i64 0, .bool false, .int .i64 0, .int .u64 0, .slice none 0 0] 41)).cell? ⟨w4.heap.size, 4, none⟩ = some (.slice none 0 0) := (World.cell?_alloc_new _ _ _ _).trans rfl
    have Hdr := Lib.hid Ha.out.drew
    have HC := Lib.hid (HH.out _ Hdr.out)
    go_region_with (go_at_call 119; ((with_reducible refine HC.out.mono ?_); rintro e w6 ⟨B, d, rfl, h1, hb⟩; have H1 := Lib.hid h1; have r1 := (hb.cell (p := ⟨w4.heap.size, 0, none⟩) sw4).trans t1; have r2 := (hb.cell (p := ⟨w4.heap.size, 1, none⟩) sw4).trans t2; have r3 := (hb.cell (p := ⟨w4.heap.size, 2, none⟩) sw4).trans t3; have r4 := (hb.cell (p := ⟨w4.heap.size, 3, none⟩) sw4).trans t4; have r5 := (hb.cell (p := ⟨w4.heap.size, 4, none⟩) sw4).trans t5; have Hd := Lib.hid (Hdr.out.trans (hb.mono Hdr.out.size)); clear hb h1; obtain ⟨hz9, _, hb9⟩ := T.out _ Hd.out; have HZ9 := Lib.hid hz9; have HB9 := Lib.hid hb9; obtain ⟨z1, z2, z3, z4, z5, f1, f2, f3, f4, f5⟩ := hz9; clear hb9))
    all_goals go_wp2
    all_goals (try simp only [Exit.inBlock, Exit.then])
    all_goals exact do_fin w6 B none d 0 (w.heap.size + 1) 0 false 0 0 [] (by rw [HG.out]; rfl) rfl rfl HZ9.out (Nat.le_succ _) HB9.out (by rw [HG.out]; exact H1.out) HAn.out (sl_nil _ _)
  · go_enter Tryz.func96, Tryz.ntmps96
    go_wp2_with (first
      | (go_at_call 116; ((with_reducible refine HK.out.mono ?_); rintro e w' ⟨rfl, hb⟩; have Hc := Lib.hid hb; obtain ⟨hz, ⟨c1, c2, c3, c4⟩, _⟩ := T.out _ hb; have HZ' := Lib.hid hz; clear hb hz))
      | (go_at_call 117; ((with_reducible refine (HIu.out _ Hc.out).mono ?_); rintro e w4 ⟨rfl, hb⟩; have Hd := Lib.hid (Hc.out.trans (hb.mono Hc.out.size)); clear hb Hc HZ' c1 c2 c3 c4; have Hc := Hd; clear Hd; obtain ⟨hz, ⟨c1, c2, c3, c4⟩, _⟩ := T.out _ Hc.out; have HZ' := Lib.hid hz; have Ha := Lib.hid (Hc.out.alloc Hc.out.size (.cells #[.int .i64 0, .bool true, .int .i64 0, .int .u64 0, .slice none 0 0] 41)); obtain ⟨_, ⟨e1, e2, e3, e4⟩, _⟩ := T.out _ Ha.out; clear hz))
      | (go_at_call 117; ((with_reducible refine (HIv.out _ Hc.out).mono ?_); rintro e w5 ⟨rfl, hb⟩; clear Ha e1 e2 e3 e4; have Hd := Lib.hid (Hc.out.trans (hb.mono Hc.out.size)); clear hb Hc HZ' c1 c2 c3 c4; have Hc := Hd; clear Hd; obtain ⟨hz, ⟨c1, c2, c3, c4⟩, _⟩ := T.out _ Hc.out; have HZ' := Lib.hid hz; have Ha := Lib.hid (Hc.out.alloc Hc.out.size (.cells #[.int .i64 0, .bool true, .int .i64 0, .int .u64 0, .slice none 0 0] 41)); obtain ⟨_, ⟨e1, e2, e3, e4⟩, _⟩ := T.out _ Ha.out; clear hz)))
    have sw5 : w5.heap.size < (w5.alloc (.cells #[.int .i64 0, .bool true, .int .i64 0, .int .u64 0, .slice none 0 0] 41)).drew.heap.size := by
      show w5.heap.size < (w5.alloc (.cells #[.int .i64 0, .bool true, .int .i64 0, .int .u64 0, .slice none 0 0] 41)).heap.size
      rw [World.size_alloc]; omega
    have t1 : (w5.alloc (.cells #[.int .i64 0, .bool true, .int .i64 0, .int .u64 0, .slice none 0 0] 41)).cell? ⟨w5.heap.size, 0, none⟩ = some (.int .i64 0) := (World.cell?_alloc_new _ _ _ _).trans rfl
    have t2 : (w5.alloc (.cells #[.int .i64 0, .bool true, .int .i64 0, .int .u64 0, .slice none 0 0] 41)).cell? ⟨w5.heap.size, 1, none⟩ = some (.bool true) := (World.cell?_alloc_new _ _ _ _).trans rfl
    have t3 : (w5.alloc (.cells #[.int .i64 0, .bool true, .int .i64 0, .int .u64 0, .slice none 0 0] 41)).cell? ⟨w5.heap.size, 2, none⟩ = some (.int .i64 0) := (World.cell?_alloc_new _ _ _ _).trans rfl
    have t4 : (w5.alloc (.cells #[.int .i64 0, .bool true, .int .i64 0, .int .u64 0, .slice none 0 0] 41)).cell? ⟨w5.heap.size, 3, none⟩ = some (.int .u64 0) := (World.cell?_alloc_new _ _ _ _).trans rfl
    have t5 : (w5.alloc (.cells #[.int .i64 0, .bool true, .int .i64 0, .int .u64 0, .slice none 0 0] 41)).cell? ⟨w5.heap.size, 4, none⟩ = some (.slice none 0 0) := (World.cell?_alloc_new _ _ _ _).trans rfl
    have Hdr := Lib.hid Ha.out.drew
    have HC := Lib.hid (HH.out _ Hdr.out)
    go_region_with (go_at_call 119; ((with_reducible refine HC.out.mono ?_); rintro e w6 ⟨B, d, rfl, h1, hb⟩; have H1 := Lib.hid h1; have r1 := (hb.cell (p := ⟨w5.heap.size, 0, none⟩) sw5).trans t1; have r2 := (hb.cell (p := ⟨w5.heap.size, 1, none⟩) sw5).trans t2; have r3 := (hb.cell (p := ⟨w5.heap.size, 2, none⟩) sw5).trans t3; have r4 := (hb.cell (p := ⟨w5.heap.size, 3, none⟩) sw5).trans t4; have r5 := (hb.cell (p := ⟨w5.heap.size, 4, none⟩) sw5).trans t5; have Hd := Lib.hid (Hdr.out.trans (hb.mono Hdr.out.size)); clear hb h1; obtain ⟨hz9, _, hb9⟩ := T.out _ Hd.out; have HZ9 := Lib.hid hz9; have HB9 := Lib.hid hb9; obtain ⟨z1, z2, z3, z4, z5, f1, f2, f3, f4, f5⟩ := hz9; clear hb9))
    all_goals go_wp2
    all_goals (try simp only [Exit.inBlock, Exit.then])
    all_goals exact do_fin w6 B none d 0 (w.heap.size + 1) 0 true 0 0 [] (by rw [HG.out]; rfl) rfl rfl HZ9.out (Nat.le_succ _) HB9.out (by rw [HG.out]; exact H1.out) HAn.out (sl_nil _ _)
theorem do_any (A : Option Addr) (c n : Nat) (l : List Arc) (o : Op) (w : World) (hn : n = l.length) (hl : Arcs w A l) (hs : Rises l) (h40 : l.length ≤ 999) (ho : o.Fine) : Calls Tryz.prog 96 #[.slice A n c, o.val] w (DoPost l o w) := by
  obtain ⟨k, u, v, x⟩ := o
  obtain ⟨_, _, _, _, _, _, hx0, hx1⟩ := ho
  unfold Op.val
  by_cases h1 : k < 11
  · exact do_low A c n l k u v x w hn hl h1
  · by_cases h2 : 17 < k
    · exact do_high A c n l k u v x w hn hl h2
    · cases hq : keysB ⟨k, u, v, x⟩
      · exact do_key A c n l k u v x w hn hl (by omega) (by omega) hq
      · have : k = 11 ∨ k = 12 ∨ k = 13 ∨ k = 14 ∨ k = 15 ∨ k = 16 ∨ k = 17 := by omega
        rcases this with rfl | rfl | rfl | rfl | rfl | rfl | rfl
        · exact do_addv A c n l u v x w hn hl hs h40 hq
        · exact do_remv A c n l u v x w hn hl hs h40 hq
        · exact do_hasv A c n l u v x w hn hl hs h40 hq
        · exact do_adde A c n l u v x w hn hl hs h40 hx0 hx1 hq
        · exact do_reme A c n l u v x w hn hl hs h40 hq
        · exact do_hase A c n l u v x w hn hl hs h40 hq
        · exact do_near A c n l u v x w hn hl hs h40 hq
end Go.Proofs.YtpdfmfkoopdfgaaGreatDoor.Gr
