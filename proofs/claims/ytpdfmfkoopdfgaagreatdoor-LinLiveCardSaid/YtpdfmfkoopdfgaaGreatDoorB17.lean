/- GDo5, LRefDo. -/
import Derived.Test.YtpdfmfkoopdfgaaGreatDoorB16
import Derived.Test.YtpdfmfkoopdfgaaGreatDoorB13
set_option linter.unusedVariables false
set_option linter.unusedSimpArgs false
section
namespace Go.Proofs.YtpdfmfkoopdfgaaGreatDoor.Gr
set_option maxRecDepth 100000
open Go.RowKit Aid

theorem outAll1 {A : Option Addr} {c : Nat} {l : List Arc} {w : World} {k u v x : Int} (hl : Arcs w A l) (h40 : l.length ≤ 1000) : ∀ W, Below (w2 w k u v x).heap.size (w2 w k u v x) W → Calls Tryz.prog 119 #[.slice A l.length c, .func (.func 120) #[] #[.pointer (some ⟨w.heap.size, 0, none⟩)]] W fun e w' => ∃ B d, e = .returned (.slice B (kept l (ends ⟨k, u, v, x⟩)).length d) ∧ Arcs w' B (kept l (ends ⟨k, u, v, x⟩)) ∧ Below W.heap.size W w' := fun W h => without_any 120 _ call23 _ A c l.length l W rfl (hl.below (after2 W h).2.2 (Nat.le_refl _)) h40 (says1 (after2 W h).2.1)
theorem outAll2 {A : Option Addr} {c : Nat} {l : List Arc} {w : World} {k u v x : Int} (hl : Arcs w A l) (h40 : l.length ≤ 1000) : ∀ W, Below (w2 w k u v x).heap.size (w2 w k u v x) W → Calls Tryz.prog 119 #[.slice A l.length c, .func (.func 123) #[] #[.pointer (some ⟨w.heap.size, 0, none⟩)]] W fun e w' => ∃ B d, e = .returned (.slice B (kept l (isE ⟨k, u, v, x⟩)).length d) ∧ Arcs w' B (kept l (isE ⟨k, u, v, x⟩)) ∧ Below W.heap.size W w' := fun W h => without_any 123 _ call24 _ A c l.length l W rfl (hl.below (after2 W h).2.2 (Nat.le_refl _)) h40 (says2 (after2 W h).2.1)
set_option maxHeartbeats 8000000 in
set_option maxRecDepth 100000 in
theorem do_reme (A : Option Addr) (c n : Nat) (l : List Arc) (u v x : Int) (w : World) (hn : n = l.length) (hl : Arcs w A l) (hs : Rises l) (h40 : l.length ≤ 999) (hq : keysB ⟨15, u, v, x⟩ = true) : Calls Tryz.prog 96 #[.slice A n c, .agg #[.int .i64 15, .int .i64 u, .int .i64 v, .int .u64 x]] w (DoPost l ⟨15, u, v, x⟩ w) := by
  subst hn
  have hg : doG l ⟨15, u, v, x⟩ = if (inB l u && inB l v) = true then kept l (isE ⟨15, u, v, x⟩) else l := by
    unfold doG both
    rw [if_neg (by simp [hq]), if_neg (by simp), if_neg (by simp), if_neg (by simp)]
    by_cases hh : (inB l u && inB l v) = true
    · rw [if_pos ⟨rfl, hh⟩, if_pos hh]
    · rw [if_neg (fun e => hh e.2), if_neg hh]
  have ha : doA l ⟨15, u, v, x⟩ = if (inB l u && inB l v) = true then ⟨0, false, 0, 0, []⟩ else ⟨5, false, 0, 0, []⟩ := by
    unfold doA both
    rw [if_neg (by simp), if_neg (by rw [hq]; simp), if_neg (by simp), if_neg (by simp), if_neg (by simp), if_neg (by simp)]
    by_cases hh : (inB l u && inB l v) = true
    · rw [if_neg (by rw [hh]; simp), if_pos hh]
    · rw [if_pos (by simpa using hh), if_neg hh]
  have HL := Lib.hid hl
  have T := Lib.hid (@after3 w 15 u v x)
  have HK := Lib.hid (keys_any ⟨15, u, v, x⟩ (w2 w 15 u v x))
  have HIu := Lib.hid (fun W h => @inAll A c l w 15 u v x hl hs (by omega) W h u)
  have HIv := Lib.hid (fun W h => @inAll A c l w 15 u v x hl hs (by omega) W h v)
  rw [hq] at HK
  unfold Op.val at HK
  simp only at HK
  have HH := Lib.hid (@outAll2 A c l w 15 u v x hl (by omega))
  clear hl hq hs
  generalize inB l u = U at hg ha HIu
  generalize inB l v = V at hg ha HIv
  generalize kept l (isE ⟨15, u, v, x⟩) = M at hg HH
  cases U
  · have HG := Lib.hid (show doG l ⟨15, u, v, x⟩ = l from hg.trans (by simp))
    have HAn := Lib.hid (show doA l ⟨15, u, v, x⟩ = ⟨5, false, 0, 0, []⟩ from ha.trans (by simp))
    clear hg ha
    go_enter Tryz.func96, Tryz.ntmps96
    go_wp2_with (first
      | (go_at_call 116; ((with_reducible refine HK.out.mono ?_); rintro e w' ⟨rfl, hb⟩; have Hc := Lib.hid hb; obtain ⟨hz, ⟨c1, c2, c3, c4⟩, _⟩ := T.out _ hb; have HZ' := Lib.hid hz; clear hb hz))
      | (go_at_call 117; ((with_reducible refine (HIu.out _ Hc.out).mono ?_); rintro e w4 ⟨rfl, hb⟩; have Hd := Lib.hid (Hc.out.trans (hb.mono Hc.out.size)); clear hb Hc HZ' c1 c2 c3 c4; have Hc := Hd; clear Hd; obtain ⟨hz, ⟨c1, c2, c3, c4⟩, _⟩ := T.out _ Hc.out; have HZ' := Lib.hid hz; have Ha := Lib.hid (Hc.out.alloc Hc.out.size (.cells #[.int .i64 0, .bool false, .int .i64 0, .int .u64 0, .slice none 0 0] 41)); obtain ⟨hz9, ⟨e1, e2, e3, e4⟩, hb9⟩ := T.out _ Ha.out; have HZ9 := Lib.hid hz9; have HB9 := Lib.hid hb9; obtain ⟨z1, z2, z3, z4, z5, f1, f2, f3, f4, f5⟩ := hz9; clear hb9; clear hz))
      | (go_at_call 117; ((with_reducible refine (HIv.out _ Hc.out).mono ?_); rintro e w5 ⟨rfl, hb⟩; clear Ha e1 e2 e3 e4 HZ9 HB9 z1 z2 z3 z4 z5 f1 f2 f3 f4 f5; have Hd := Lib.hid (Hc.out.trans (hb.mono Hc.out.size)); clear hb Hc HZ' c1 c2 c3 c4; have Hc := Hd; clear Hd; obtain ⟨hz, ⟨c1, c2, c3, c4⟩, _⟩ := T.out _ Hc.out; have HZ' := Lib.hid hz; have Ha := Lib.hid (Hc.out.alloc Hc.out.size (.cells #[.int .i64 0, .bool false, .int .i64 0, .int .u64 0, .slice none 0 0] 41)); obtain ⟨hz9, ⟨e1, e2, e3, e4⟩, hb9⟩ := T.out _ Ha.out; have HZ9 := Lib.hid hz9; have HB9 := Lib.hid hb9; obtain ⟨z1, z2, z3, z4, z5, f1, f2, f3, f4, f5⟩ := hz9; clear hb9; clear hz)))
    all_goals (try simp only [Exit.inBlock, Exit.then])
    all_goals exact do_fin (w4.alloc (.cells #[.int .i64 0, .bool false, .int .i64 0, .int .u64 0, .slice none 0 0] 41)) A none c 0 (w.heap.size + 1) 5 false 0 0 [] (by rw [HG.out]; rfl) rfl rfl HZ9.out (Nat.le_succ _) HB9.out (by rw [HG.out]; exact HL.out.below HB9.out (Nat.le_refl _)) HAn.out (sl_nil _ _)
  · cases V
    · have HG := Lib.hid (show doG l ⟨15, u, v, x⟩ = l from hg.trans (by simp))
      have HAn := Lib.hid (show doA l ⟨15, u, v, x⟩ = ⟨5, false, 0, 0, []⟩ from ha.trans (by simp))
      clear hg ha
      go_enter Tryz.func96, Tryz.ntmps96
      go_wp2_with (first
      | (go_at_call 116; ((with_reducible refine HK.out.mono ?_); rintro e w' ⟨rfl, hb⟩; have Hc := Lib.hid hb; obtain ⟨hz, ⟨c1, c2, c3, c4⟩, _⟩ := T.out _ hb; have HZ' := Lib.hid hz; clear hb hz))
      | (go_at_call 117; ((with_reducible refine (HIu.out _ Hc.out).mono ?_); rintro e w4 ⟨rfl, hb⟩; have Hd := Lib.hid (Hc.out.trans (hb.mono Hc.out.size)); clear hb Hc HZ' c1 c2 c3 c4; have Hc := Hd; clear Hd; obtain ⟨hz, ⟨c1, c2, c3, c4⟩, _⟩ := T.out _ Hc.out; have HZ' := Lib.hid hz; have Ha := Lib.hid (Hc.out.alloc Hc.out.size (.cells #[.int .i64 0, .bool true, .int .i64 0, .int .u64 0, .slice none 0 0] 41)); obtain ⟨hz9, ⟨e1, e2, e3, e4⟩, hb9⟩ := T.out _ Ha.out; have HZ9 := Lib.hid hz9; have HB9 := Lib.hid hb9; obtain ⟨z1, z2, z3, z4, z5, f1, f2, f3, f4, f5⟩ := hz9; clear hb9; clear hz))
      | (go_at_call 117; ((with_reducible refine (HIv.out _ Hc.out).mono ?_); rintro e w5 ⟨rfl, hb⟩; clear Ha e1 e2 e3 e4 HZ9 HB9 z1 z2 z3 z4 z5 f1 f2 f3 f4 f5; have Hd := Lib.hid (Hc.out.trans (hb.mono Hc.out.size)); clear hb Hc HZ' c1 c2 c3 c4; have Hc := Hd; clear Hd; obtain ⟨hz, ⟨c1, c2, c3, c4⟩, _⟩ := T.out _ Hc.out; have HZ' := Lib.hid hz; have Ha := Lib.hid (Hc.out.alloc Hc.out.size (.cells #[.int .i64 0, .bool true, .int .i64 0, .int .u64 0, .slice none 0 0] 41)); obtain ⟨hz9, ⟨e1, e2, e3, e4⟩, hb9⟩ := T.out _ Ha.out; have HZ9 := Lib.hid hz9; have HB9 := Lib.hid hb9; obtain ⟨z1, z2, z3, z4, z5, f1, f2, f3, f4, f5⟩ := hz9; clear hb9; clear hz)))
      all_goals (try simp only [Exit.inBlock, Exit.then])
      all_goals exact do_fin (w5.alloc (.cells #[.int .i64 0, .bool true, .int .i64 0, .int .u64 0, .slice none 0 0] 41)) A none c 0 (w.heap.size + 1) 5 false 0 0 [] (by rw [HG.out]; rfl) rfl rfl HZ9.out (Nat.le_succ _) HB9.out (by rw [HG.out]; exact HL.out.below HB9.out (Nat.le_refl _)) HAn.out (sl_nil _ _)
    · have HG := Lib.hid (show doG l ⟨15, u, v, x⟩ = M from hg.trans (by simp))
      have HAn := Lib.hid (show doA l ⟨15, u, v, x⟩ = ⟨0, false, 0, 0, []⟩ from ha.trans (by simp))
      clear hg ha
      go_enter Tryz.func96, Tryz.ntmps96
      go_wp2_with (first
      | (go_at_call 116; ((with_reducible refine HK.out.mono ?_); rintro e w' ⟨rfl, hb⟩; have Hc := Lib.hid hb; obtain ⟨hz, ⟨c1, c2, c3, c4⟩, _⟩ := T.out _ hb; have HZ' := Lib.hid hz; clear hb hz))
      | (go_at_call 117; ((with_reducible refine (HIu.out _ Hc.out).mono ?_); rintro e w4 ⟨rfl, hb⟩; have Hd := Lib.hid (Hc.out.trans (hb.mono Hc.out.size)); clear hb Hc HZ' c1 c2 c3 c4; have Hc := Hd; clear Hd; obtain ⟨hz, ⟨c1, c2, c3, c4⟩, _⟩ := T.out _ Hc.out; have HZ' := Lib.hid hz; have Ha := Lib.hid (Hc.out.alloc Hc.out.size (.cells #[.int .i64 0, .bool true, .int .i64 0, .int .u64 0, .slice none 0 0] 41)); obtain ⟨_, ⟨e1, e2, e3, e4⟩, _⟩ := T.out _ Ha.out; clear hz))
      | (go_at_call 117; ((with_reducible refine (HIv.out _ Hc.out).mono ?_); rintro e w5 ⟨rfl, hb⟩; clear Ha e1 e2 e3 e4; have Hd := Lib.hid (Hc.out.trans (hb.mono Hc.out.size)); clear hb Hc HZ' c1 c2 c3 c4; have Hc := Hd; clear Hd; obtain ⟨hz, ⟨c1, c2, c3, c4⟩, _⟩ := T.out _ Hc.out; have HZ' := Lib.hid hz; have Ha := Lib.hid (Hc.out.alloc Hc.out.size (.cells #[.int .i64 0, .bool true, .int .i64 0, .int .u64 0, .slice none 0 0] 41)); obtain ⟨_, ⟨e1, e2, e3, e4⟩, _⟩ := T.out _ Ha.out; clear hz))
      | (go_at_call 119; ((with_reducible refine (HH.out _ Ha.out).mono ?_); rintro e w6 ⟨B, d, rfl, h1, hb⟩; have H1 := Lib.hid h1; have Hd := Lib.hid (Ha.out.trans (hb.mono Ha.out.size)); clear hb h1; obtain ⟨hz9, _, hb9⟩ := T.out _ Hd.out; have HZ9 := Lib.hid hz9; have HB9 := Lib.hid hb9; obtain ⟨z1, z2, z3, z4, z5, f1, f2, f3, f4, f5⟩ := hz9; clear hb9)))
      all_goals (try simp only [Exit.inBlock, Exit.then])
      all_goals exact do_fin w6 B none d 0 (w.heap.size + 1) 0 false 0 0 [] (by rw [HG.out]; rfl) rfl rfl HZ9.out (Nat.le_succ _) HB9.out (by rw [HG.out]; exact H1.out) HAn.out (sl_nil _ _)
set_option maxHeartbeats 8000000 in
set_option maxRecDepth 100000 in
theorem do_remv (A : Option Addr) (c n : Nat) (l : List Arc) (u v x : Int) (w : World) (hn : n = l.length) (hl : Arcs w A l) (hs : Rises l) (h40 : l.length ≤ 999) (hq : keysB ⟨12, u, v, x⟩ = true) : Calls Tryz.prog 96 #[.slice A n c, .agg #[.int .i64 12, .int .i64 u, .int .i64 v, .int .u64 x]] w (DoPost l ⟨12, u, v, x⟩ w) := by
  subst hn
  have HG : Hid (doG l ⟨12, u, v, x⟩ = kept l (ends ⟨12, u, v, x⟩)) := Lib.hid (by
    unfold doG
    rw [if_neg (by simp [hq]), if_neg (by simp), if_pos rfl])
  have HAn : Hid (doA l ⟨12, u, v, x⟩ = ⟨0, inB l u, 0, 0, []⟩) := Lib.hid (by
    unfold doA
    rw [if_neg (by simp), if_neg (by rw [hq]; simp), if_neg (by simp), if_pos (by simp)])
  have HL := Lib.hid hl
  have T := Lib.hid (@after3 w 12 u v x)
  have HK := Lib.hid (keys_any ⟨12, u, v, x⟩ (w2 w 12 u v x))
  have HIu := Lib.hid (fun W h => @inAll A c l w 12 u v x hl hs (by omega) W h u)
  have HIv := Lib.hid (fun W h => @inAll A c l w 12 u v x hl hs (by omega) W h v)
  rw [hq] at HK
  unfold Op.val at HK
  simp only at HK
  have HH := Lib.hid (@outAll1 A c l w 12 u v x hl (by omega))
  clear hl hq hs
  generalize inB l u = U at HAn HIu
  generalize inB l v = V at HIv
  generalize kept l (ends ⟨12, u, v, x⟩) = M at HG HH
  cases U
  · go_enter Tryz.func96, Tryz.ntmps96
    go_wp2_with (first
      | (go_at_call 116; ((with_reducible refine HK.out.mono ?_); rintro e w' ⟨rfl, hb⟩; have Hc := Lib.hid hb; obtain ⟨hz, ⟨c1, c2, c3, c4⟩, _⟩ := T.out _ hb; have HZ' := Lib.hid hz; clear hb hz))
      | (go_at_call 117; ((with_reducible refine (HIu.out _ Hc.out).mono ?_); rintro e w4 ⟨rfl, hb⟩; have Hd := Lib.hid (Hc.out.trans (hb.mono Hc.out.size)); clear hb Hc HZ' c1 c2 c3 c4; have Hc := Hd; clear Hd; obtain ⟨hz, ⟨c1, c2, c3, c4⟩, _⟩ := T.out _ Hc.out; have HZ' := Lib.hid hz; have Ha := Lib.hid (Hc.out.alloc Hc.out.size (.cells #[.int .i64 0, .bool false, .int .i64 0, .int .u64 0, .slice none 0 0] 41)); obtain ⟨_, ⟨e1, e2, e3, e4⟩, _⟩ := T.out _ Ha.out; clear hz))
      | (go_at_call 117; ((with_reducible refine (HIv.out _ Hc.out).mono ?_); rintro e w5 ⟨rfl, hb⟩; clear Ha e1 e2 e3 e4; have Hd := Lib.hid (Hc.out.trans (hb.mono Hc.out.size)); clear hb Hc HZ' c1 c2 c3 c4; have Hc := Hd; clear Hd; obtain ⟨hz, ⟨c1, c2, c3, c4⟩, _⟩ := T.out _ Hc.out; have HZ' := Lib.hid hz; have Ha := Lib.hid (Hc.out.alloc Hc.out.size (.cells #[.int .i64 0, .bool false, .int .i64 0, .int .u64 0, .slice none 0 0] 41)); obtain ⟨_, ⟨e1, e2, e3, e4⟩, _⟩ := T.out _ Ha.out; clear hz)))
    have sw4 : w4.heap.size < (w4.alloc (.cells #[.int .i64 0, .bool false, .int .i64 0, .int .u64 0, .slice none 0 0] 41)).drew.heap.size := by
      show w4.heap.size < (w4.alloc (.cells #[.int .i64 0, .bool false, .int .i64 0, .int .u64 0, .slice none 0 0] 41)).heap.size
      rw [World.size_alloc]; omega
    have t1 : (w4.alloc (.cells #[.int .i64 0, .bool false, .int .i64 0, .int .u64 0, .slice none 0 0] 41)).cell? ⟨w4.heap.size, 0, none⟩ = some (.int .i64 0) := (World.cell?_alloc_new _ _ _ _).trans rfl
    have t2 : (w4.alloc (.cells #[.int .i64 0, .bool false, .int .i64 0, .int .u64 0, .slice none 0 0] 41)).cell? ⟨w4.heap.size, 1, none⟩ = some (.bool false) := (World.cell?_alloc_new _ _ _ _).trans rfl
    have t3 : (w4.alloc (.cells #[.int .i64 0, .bool false, .int .i64 0, .int .u64 0, .slice none 0 0] 41)).cell? ⟨w4.heap.size, 2, none⟩ = some (.int .i64 0) := (World.cell?_alloc_new _ _ _ _).trans rfl
    have t4 : (w4.alloc (.cells #[.int .i64 0, .bool false, .int .i64 0, .int .u64 0, .slice none 0 0] 41)).cell? ⟨w4.heap.size, 3, none⟩ = some (.int .u64 0) := (World.cell?_alloc_new _ _ _ _).trans rfl
    have t5 : (w4.alloc (.cells #[.int .i64 0, .bool false, .int .i64 0, .int .u64 0, .slice none 0 0] 41)).cell? ⟨w4.heap.size, 4, none⟩ = some (.slice none 0 0) := (World.cell?_alloc_new _ _ _ _).trans rfl
    have Hdr := Lib.hid Ha.out.drew
    have HC := Lib.hid (HH.out _ Hdr.out)
    go_region_with (go_at_call 119; ((with_reducible refine HC.out.mono ?_); rintro e w6 ⟨B, d, rfl, h1, hb⟩; have H1 := Lib.hid h1; have r1 := (hb.cell (p := ⟨w4.heap.size, 0, none⟩) sw4).trans t1; have r2 := (hb.cell (p := ⟨w4.heap.size, 1, none⟩) sw4).trans t2; have r3 := (hb.cell (p := ⟨w4.heap.size, 2, none⟩) sw4).trans t3; have r4 := (hb.cell (p := ⟨w4.heap.size, 3, none⟩) sw4).trans t4; have r5 := (hb.cell (p := ⟨w4.heap.size, 4, none⟩) sw4).trans t5; have Hd := Lib.hid (Hdr.out.trans (hb.mono Hdr.out.size)); clear hb h1; obtain ⟨hz9, _, hb9⟩ := T.out _ Hd.out; have HZ9 := Lib.hid hz9; have HB9 := Lib.hid hb9; obtain ⟨z1, z2, z3, z4, z5, f1, f2, f3, f4, f5⟩ := hz9; clear hb9))
    all_goals go_wp2
    all_goals (try simp only [Exit.inBlock, Exit.then])
    all_goals exact do_fin w6 B none d 0 (w.heap.size + 1) 0 false 0 0 [] (by rw [HG.out]; rfl) rfl rfl HZ9.out (Nat.le_succ _) HB9.out (by rw [HG.out]; exact H1.out) HAn.out (sl_nil _ _)
  · go_enter Tryz.func96, Tryz.ntmps96
    go_wp2_with (first
      | (go_at_call 116; ((with_reducible refine HK.out.mono ?_); rintro e w' ⟨rfl, hb⟩; have Hc := Lib.hid hb; obtain ⟨hz, ⟨c1, c2, c3, c4⟩, _⟩ := T.out _ hb; have HZ' := Lib.hid hz; clear hb hz))
      | (go_at_call 117; ((with_reducible refine (HIu.out _ Hc.out).mono ?_); rintro e w4 ⟨rfl, hb⟩; have Hd := Lib.hid (Hc.out.trans (hb.mono Hc.out.size)); clear hb Hc HZ' c1 c2 c3 c4; have Hc := Hd; clear Hd; obtain ⟨hz, ⟨c1, c2, c3, c4⟩, _⟩ := T.out _ Hc.out; have HZ' := Lib.hid hz; have Ha := Lib.hid (Hc.out.alloc Hc.out.size (.cells #[.int .i64 0, .bool true, .int .i64 0, .int .u64 0, .slice none 0 0] 41)); obtain ⟨_, ⟨e1, e2, e3, e4⟩, _⟩ := T.out _ Ha.out; clear hz))
      | (go_at_call 117; ((with_reducible refine (HIv.out _ Hc.out).mono ?_); rintro e w5 ⟨rfl, hb⟩; clear Ha e1 e2 e3 e4; have Hd := Lib.hid (Hc.out.trans (hb.mono Hc.out.size)); clear hb Hc HZ' c1 c2 c3 c4; have Hc := Hd; clear Hd; obtain ⟨hz, ⟨c1, c2, c3, c4⟩, _⟩ := T.out _ Hc.out; have HZ' := Lib.hid hz; have Ha := Lib.hid (Hc.out.alloc Hc.out.size (.cells #[.int .i64 0, .bool true, .int .i64 0, .int .u64 0, .slice none 0 0] 41)); obtain ⟨_, ⟨e1, e2, e3, e4⟩, _⟩ := T.out _ Ha.out; clear hz)))
    have sw5 : w5.heap.size < (w5.alloc (.cells #[.int .i64 0, .bool true, .int .i64 0, .int .u64 0, .slice none 0 0] 41)).drew.heap.size := by
      show w5.heap.size < (w5.alloc (.cells #[.int .i64 0, .bool true, .int .i64 0, .int .u64 0, .slice none 0 0] 41)).heap.size
      rw [World.size_alloc]; omega
    have t1 : (w5.alloc (.cells #[.int .i64 0, .bool true, .int .i64 0, .int .u64 0, .slice none 0 0] 41)).cell? ⟨w5.heap.size, 0, none⟩ = some (.int .i64 0) := (World.cell?_alloc_new _ _ _ _).trans rfl
    have t2 : (w5.alloc (.cells #[.int .i64 0, .bool true, .int .i64 0, .int .u64 0, .slice none 0 0] 41)).cell? ⟨w5.heap.size, 1, none⟩ = some (.bool true) := (World.cell?_alloc_new _ _ _ _).trans rfl
    have t3 : (w5.alloc (.cells #[.int .i64 0, .bool true, .int .i64 0, .int .u64 0, .slice none 0 0] 41)).cell? ⟨w5.heap.size, 2, none⟩ = some (.int .i64 0) := (World.cell?_alloc_new _ _ _ _).trans rfl
    have t4 : (w5.alloc (.cells #[.int .i64 0, .bool true, .int .i64 0, .int .u64 0, .slice none 0 0] 41)).cell? ⟨w5.heap.size, 3, none⟩ = some (.int .u64 0) := (World.cell?_alloc_new _ _ _ _).trans rfl
    have t5 : (w5.alloc (.cells #[.int .i64 0, .bool true, .int .i64 0, .int .u64 0, .slice none 0 0] 41)).cell? ⟨w5.heap.size, 4, none⟩ = some (.slice none 0 0) := (World.cell?_alloc_new _ _ _ _).trans rfl
    have Hdr := Lib.hid Ha.out.drew
    have HC := Lib.hid (HH.out _ Hdr.out)
    go_region_with (go_at_call 119; ((with_reducible refine HC.out.mono ?_); rintro e w6 ⟨B, d, rfl, h1, hb⟩; have H1 := Lib.hid h1; have r1 := (hb.cell (p := ⟨w5.heap.size, 0, none⟩) sw5).trans t1; have r2 := (hb.cell (p := ⟨w5.heap.size, 1, none⟩) sw5).trans t2; have r3 := (hb.cell (p := ⟨w5.heap.size, 2, none⟩) sw5).trans t3; have r4 := (hb.cell (p := ⟨w5.heap.size, 3, none⟩) sw5).trans t4; have r5 := (hb.cell (p := ⟨w5.heap.size, 4, none⟩) sw5).trans t5; have Hd := Lib.hid (Hdr.out.trans (hb.mono Hdr.out.size)); clear hb h1; obtain ⟨hz9, _, hb9⟩ := T.out _ Hd.out; have HZ9 := Lib.hid hz9; have HB9 := Lib.hid hb9; obtain ⟨z1, z2, z3, z4, z5, f1, f2, f3, f4, f5⟩ := hz9; clear hb9))
    all_goals go_wp2
    all_goals (try simp only [Exit.inBlock, Exit.then])
    all_goals exact do_fin w6 B none d 0 (w.heap.size + 1) 0 true 0 0 [] (by rw [HG.out]; rfl) rfl rfl HZ9.out (Nat.le_succ _) HB9.out (by rw [HG.out]; exact H1.out) HAn.out (sl_nil _ _)
theorem do_any (A : Option Addr) (c n : Nat) (l : List Arc) (o : Op) (w : World) (hn : n = l.length) (hl : Arcs w A l) (hs : Rises l) (h40 : l.length ≤ 999) (ho : o.Fine) : Calls Tryz.prog 96 #[.slice A n c, o.val] w (DoPost l o w) := by
  obtain ⟨k, u, v, x⟩ := o
  obtain ⟨_, _, _, _, _, _, hx0, hx1⟩ := ho
  unfold Op.val
  by_cases h1 : k < 11
  · exact do_low A c n l k u v x w hn hl h1
  · by_cases h2 : 17 < k
    · exact do_high A c n l k u v x w hn hl h2
    · cases hq : keysB ⟨k, u, v, x⟩
      · exact do_key A c n l k u v x w hn hl (by omega) (by omega) hq
      · have : k = 11 ∨ k = 12 ∨ k = 13 ∨ k = 14 ∨ k = 15 ∨ k = 16 ∨ k = 17 := by omega
        rcases this with rfl | rfl | rfl | rfl | rfl | rfl | rfl
        · exact do_addv A c n l u v x w hn hl hs h40 hq
        · exact do_remv A c n l u v x w hn hl hs h40 hq
        · exact do_hasv A c n l u v x w hn hl hs h40 hq
        · exact do_adde A c n l u v x w hn hl hs h40 hx0 hx1 hq
        · exact do_reme A c n l u v x w hn hl hs h40 hq
        · exact do_hase A c n l u v x w hn hl hs h40 hq
        · exact do_near A c n l u v x w hn hl hs h40 hq
end Go.Proofs.YtpdfmfkoopdfgaaGreatDoor.Gr
end
section
namespace Go.Proofs.YtpdfmfkoopdfgaaGreatDoor.Gr
set_option maxRecDepth 100000
open Go.RowKit Aid

theorem rdo_ret {R : Ending → World → Prop} {a : Act} {W : World} {b : Nat} {cs : List Value} {g : Value} (h4 : a.tmps.getD 4 undef = g) (h5 : a.tmps.getD 5 undef = .pointer (some ⟨b, 0, none⟩)) (hd : a.defers = [])
    (hc : W.rangeAt b 0 cs) (hl : cs.length = 5) (hR : R (.returned (.tuple #[g, .agg cs.toArray])) W) : bodyPost Tryz.prog Tryz.f15 R .ret a W := by
  have hi : (Tryz.prog.info? 41).map (·.size) = some cs.length := by rw [hl]; kernel_rfl
  have hld := run_loadVar_mid (P := Tryz.prog) W b 0 41 cs _ hc Tryz.underlying41 rfl hi
  refine bodyPost_ret (v := .tuple #[g, .agg cs.toArray]) ?_ hd hR
  unfold results
  rw [show Tryz.f15.results = #[.tmp 4, .cell 5 41] from rfl]
  simp only [Array.getD_eq_getD_getElem?] at h4 h5
  simp [asAddr, h4, h5, hld]
theorem rdo_fin {l : List Arc} {o : Op} {w : World} {a : Act} (W : World) (B C : Option Addr) (d f b : Nat) (e : Int) (i : Bool) (n x : Int) (li : List Int) (h4 : a.tmps.getD 4 undef = .slice B (doG l o).length d) (h5 : a.tmps.getD 5 undef = .pointer (some ⟨b, 0, none⟩)) (hd : a.defers = [])
    (hz : ZeroOut W b) (hb : w.heap.size ≤ b) (hbW : Below w.heap.size w W) (harcs : Arcs W B (doG l o)) (ha : doA l o = ⟨e, i, n, x, li⟩) (hs : Sl (W.setCells b 0 [.int .i64 e, .bool i, .int .i64 n, .int .u64 x, .slice C li.length f]) C (li.map (Value.int .i64))) :
    bodyPost Tryz.prog Tryz.f15 (DoPost l o w) .ret a (W.setCells b 0 [.int .i64 e, .bool i, .int .i64 n, .int .u64 x, .slice C li.length f]) := by
  refine rdo_ret h4 h5 hd (World.rangeAt_setCells_same W b 0 [.int .i64 e, .bool i, .int .i64 n, .int .u64 x, .slice C li.length f] hz.there) rfl ?_
  unfold DoPost
  rw [ha]
  exact ⟨B, d, C, f, rfl, arcs_box hz harcs _ rfl, hs, below_set b hb _ 0 hbW⟩
/-- What the calls at the head answer; the world is as it was. -/
structure Heads (A : Option Addr) (c n : Nat) (l : List Arc) (u v : Int) (W : World) : Prop where
  is : ∀ y, Calls Tryz.prog 18 #[.int .i64 y] W fun e w' => e = .returned (.bool (isV y)) ∧ W = w'
  inn : ∀ y, Calls Tryz.prog 19 #[.slice A n c, .int .i64 y] W fun e w' => e = .returned (.bool (inB l y)) ∧ W = w'
  has : Calls Tryz.prog 31 #[.slice A n c, .int .i64 u, .int .i64 v] W fun e w' => e = .returned (.tuple #[.int .u64 (hasW l u v), .bool (hasB l u v)]) ∧ W = w'
theorem heads (A : Option Addr) (c n : Nat) (l : List Arc) (k u v x : Int) (w : World) (hn : n = l.length) (hl : Arcs w A l) : Heads A c n l u v (w2 w k u v x) :=
  have h := hl.below (w2_ok w k u v x).2.2 (Nat.le_refl _)
  ⟨fun y => is_any y _, fun y => refIn_any A c n l y _ hn h, refHas_any A c n l u v _ hn h⟩
theorem cellL' {w W : World} {p : Addr} {v : Value} (h : w.cell? p = some v) (hb : Below w.heap.size w W) : W.cell? p = some v := (hb.cell (p := p) (World.block_lt_of_cell? _ _ h)).trans h
theorem kept_at {l : List Arc} {p : Arc → Bool} {k : Nat} {a : Arc} (h : l[k]? = some a) : kept (l.take (k + 1)) p = kept (l.take k) p ++ (if p a then [] else [a]) := by
  obtain ⟨hk, he⟩ := List.getElem?_eq_some_iff.1 h
  rw [kept_next hk, he]
theorem kept_drop {l : List Arc} {p : Arc → Bool} {k : Nat} {a : Arc} (h : l[k]? = some a) (hp : p a = true) : kept (l.take (k + 1)) p = kept (l.take k) p := by rw [kept_at h, if_pos hp, List.append_nil]
theorem kept_keep {l : List Arc} {p : Arc → Bool} {k : Nat} {a : Arc} (h : l[k]? = some a) (hp : p a = false) : kept (l.take (k + 1)) p = kept (l.take k) p ++ [a] := by rw [kept_at h, if_neg (by rw [hp]; simp)]

set_option maxHeartbeats 2000000 in
theorem rdo_11y (A : Option Addr) (c n : Nat) (l : List Arc) (u v x : Int) (w : World) (hn : n = l.length) (hl : Arcs w A l) (hu : isV u = true) (hi : inB l u = true) : Calls Tryz.prog 15 #[.slice A n c, .agg #[.int .i64 11, .int .i64 u, .int .i64 v, .int .u64 x]] w (DoPost l ⟨11, u, v, x⟩ w) := by
  have HH := heads A c n l 11 u v x w hn hl
  subst hn
  have HU := HH.is u
  have HV := Lib.hid (HH.is v)
  have HI := HH.inn u
  have HJ := HH.inn v
  have HS := HH.has
  clear HH
  have hq : keysB ⟨11, u, v, x⟩ = true := by unfold keysB; simp [hu, edgeKind]
  have HG := Lib.hid (show doG l ⟨11, u, v, x⟩ = l by unfold doG; rw [if_neg (by simp [hq]), if_pos rfl]; exact withL_hit hi)
  have HAn := Lib.hid (show doA l ⟨11, u, v, x⟩ = ⟨0, false, 0, 0, []⟩ by unfold doA; simp [hq, hi])
  have HL := Lib.hid hl
  rw [hu] at HU
  have HU := Lib.hid HU
  rw [hi] at HI
  have HI := Lib.hid HI
  have HJ := Lib.hid HJ
  have HS := Lib.hid HS
  clear hl hq hu hi
  go_enter Tryz.func15, Tryz.ntmps15
  go_wp2_with (first
    | (go_at_call 18; ((with_reducible refine (HU.out).mono ?_); rintro e w' ⟨rfl, rfl⟩))
    | (go_at_call 18; ((with_reducible refine (HV.out).mono ?_); rintro e w' ⟨rfl, rfl⟩))
    | (go_at_call 19; ((with_reducible refine (HI.out).mono ?_); rintro e w' ⟨rfl, rfl⟩))
    | (go_at_call 19; ((with_reducible refine (HJ.out).mono ?_); rintro e w' ⟨rfl, rfl⟩))
    | (go_at_call 31; ((with_reducible refine (HS.out).mono ?_); rintro e w' ⟨rfl, rfl⟩)))
  (try simp only [Exit.inBlock, Exit.then])
  refine rdo_ret rfl rfl rfl (range_new2 _ _ _ _) rfl ?_
  unfold DoPost
  rw [HG.out, HAn.out]
  exact ⟨A, c, none, 0, rfl, HL.out.below (w2_below _ _ _) (Nat.le_refl _), sl_nil _ _, w2_below _ _ _⟩

set_option maxHeartbeats 2000000 in
theorem rdo_13 (A : Option Addr) (c n : Nat) (l : List Arc) (u v x : Int) (w : World) (hn : n = l.length) (hl : Arcs w A l) (hu : isV u = true) : Calls Tryz.prog 15 #[.slice A n c, .agg #[.int .i64 13, .int .i64 u, .int .i64 v, .int .u64 x]] w (DoPost l ⟨13, u, v, x⟩ w) := by
  have HH := heads A c n l 13 u v x w hn hl
  subst hn
  have HU := HH.is u
  have HV := Lib.hid (HH.is v)
  have HI := HH.inn u
  have HJ := HH.inn v
  have HS := HH.has
  clear HH
  have hq : keysB ⟨13, u, v, x⟩ = true := by unfold keysB; simp [hu, edgeKind]
  have HG := Lib.hid (show doG l ⟨13, u, v, x⟩ = l by exact doG_plain (by simp) (by simp) hq (.inl rfl))
  have HAn := Lib.hid (show doA l ⟨13, u, v, x⟩ = ⟨0, inB l u, 0, 0, []⟩ by unfold doA; simp [hq])
  have HL := Lib.hid hl
  rw [hu] at HU
  have HU := Lib.hid HU
  have HI := Lib.hid HI
  have HJ := Lib.hid HJ
  have HS := Lib.hid HS
  clear hl hq hu
  go_enter Tryz.func15, Tryz.ntmps15
  go_wp2_with (first
    | (go_at_call 18; ((with_reducible refine (HU.out).mono ?_); rintro e w' ⟨rfl, rfl⟩))
    | (go_at_call 18; ((with_reducible refine (HV.out).mono ?_); rintro e w' ⟨rfl, rfl⟩))
    | (go_at_call 19; ((with_reducible refine (HI.out).mono ?_); rintro e w' ⟨rfl, rfl⟩))
    | (go_at_call 19; ((with_reducible refine (HJ.out).mono ?_); rintro e w' ⟨rfl, rfl⟩))
    | (go_at_call 31; ((with_reducible refine (HS.out).mono ?_); rintro e w' ⟨rfl, rfl⟩)))
  (try simp only [Exit.inBlock, Exit.then])
  refine rdo_ret rfl rfl rfl (range_new2 _ _ _ _) rfl ?_
  unfold DoPost
  rw [HG.out, HAn.out]
  exact ⟨A, c, none, 0, rfl, HL.out.below (w2_below _ _ _) (Nat.le_refl _), sl_nil _ _, w2_below _ _ _⟩

set_option maxHeartbeats 2000000 in
theorem rdo_16 (A : Option Addr) (c n : Nat) (l : List Arc) (u v x : Int) (w : World) (hn : n = l.length) (hl : Arcs w A l) (hu : isV u = true) (hv : isV v = true) : Calls Tryz.prog 15 #[.slice A n c, .agg #[.int .i64 16, .int .i64 u, .int .i64 v, .int .u64 x]] w (DoPost l ⟨16, u, v, x⟩ w) := by
  have HH := heads A c n l 16 u v x w hn hl
  subst hn
  have HU := HH.is u
  have HV := Lib.hid (HH.is v)
  have HI := HH.inn u
  have HJ := HH.inn v
  have HS := HH.has
  clear HH
  have hq : keysB ⟨16, u, v, x⟩ = true := by unfold keysB; simp [hu, hv, edgeKind]
  have HG := Lib.hid (show doG l ⟨16, u, v, x⟩ = l by exact doG_plain (by simp) (by simp) hq (.inr (.inl rfl)))
  have HAn := Lib.hid (show doA l ⟨16, u, v, x⟩ = ⟨0, hasB l u v, 0, hasW l u v, []⟩ by unfold doA; simp [hq])
  have HL := Lib.hid hl
  rw [hu] at HU
  have HU := Lib.hid HU
  have HV0 := HV.out
  rw [hv] at HV0
  have HV := Lib.hid HV0
  clear HV0
  have HI := Lib.hid HI
  have HJ := Lib.hid HJ
  have HS := Lib.hid HS
  clear hl hq hu hv
  go_enter Tryz.func15, Tryz.ntmps15
  go_wp2_with (first
    | (go_at_call 18; ((with_reducible refine (HU.out).mono ?_); rintro e w' ⟨rfl, rfl⟩))
    | (go_at_call 18; ((with_reducible refine (HV.out).mono ?_); rintro e w' ⟨rfl, rfl⟩))
    | (go_at_call 19; ((with_reducible refine (HI.out).mono ?_); rintro e w' ⟨rfl, rfl⟩))
    | (go_at_call 19; ((with_reducible refine (HJ.out).mono ?_); rintro e w' ⟨rfl, rfl⟩))
    | (go_at_call 31; ((with_reducible refine (HS.out).mono ?_); rintro e w' ⟨rfl, rfl⟩)))
  (try simp only [Exit.inBlock, Exit.then])
  refine rdo_ret rfl rfl rfl (range_new2 _ _ _ _) rfl ?_
  unfold DoPost
  rw [HG.out, HAn.out]
  exact ⟨A, c, none, 0, rfl, HL.out.below (w2_below _ _ _) (Nat.le_refl _), sl_nil _ _, w2_below _ _ _⟩

set_option maxHeartbeats 2000000 in
theorem rdo_14nu (A : Option Addr) (c n : Nat) (l : List Arc) (u v x : Int) (w : World) (hn : n = l.length) (hl : Arcs w A l) (hu : isV u = true) (hv : isV v = true) (hi : inB l u = false) : Calls Tryz.prog 15 #[.slice A n c, .agg #[.int .i64 14, .int .i64 u, .int .i64 v, .int .u64 x]] w (DoPost l ⟨14, u, v, x⟩ w) := by
  have HH := heads A c n l 14 u v x w hn hl
  subst hn
  have HU := HH.is u
  have HV := Lib.hid (HH.is v)
  have HI := HH.inn u
  have HJ := HH.inn v
  have HS := HH.has
  clear HH
  have hq : keysB ⟨14, u, v, x⟩ = true := by unfold keysB; simp [hu, hv, edgeKind]
  have HG := Lib.hid (show doG l ⟨14, u, v, x⟩ = l by unfold doG both; simp [hq, hi])
  have HAn := Lib.hid (show doA l ⟨14, u, v, x⟩ = ⟨5, false, 0, 0, []⟩ by unfold doA both; simp [hq, hi])
  have HL := Lib.hid hl
  rw [hu] at HU
  have HU := Lib.hid HU
  have HV0 := HV.out
  rw [hv] at HV0
  have HV := Lib.hid HV0
  clear HV0
  rw [hi] at HI
  have HI := Lib.hid HI
  have HJ := Lib.hid HJ
  have HS := Lib.hid HS
  clear hl hq hu hv hi
  go_enter Tryz.func15, Tryz.ntmps15
  go_wp2_with (first
    | (go_at_call 18; ((with_reducible refine (HU.out).mono ?_); rintro e w' ⟨rfl, rfl⟩))
    | (go_at_call 18; ((with_reducible refine (HV.out).mono ?_); rintro e w' ⟨rfl, rfl⟩))
    | (go_at_call 19; ((with_reducible refine (HI.out).mono ?_); rintro e w' ⟨rfl, rfl⟩))
    | (go_at_call 19; ((with_reducible refine (HJ.out).mono ?_); rintro e w' ⟨rfl, rfl⟩))
    | (go_at_call 31; ((with_reducible refine (HS.out).mono ?_); rintro e w' ⟨rfl, rfl⟩)))
  (try simp only [Exit.inBlock, Exit.then])
  refine rdo_ret rfl rfl rfl (range_new2 _ _ _ _) rfl ?_
  unfold DoPost
  rw [HG.out, HAn.out]
  exact ⟨A, c, none, 0, rfl, HL.out.below (w2_below _ _ _) (Nat.le_refl _), sl_nil _ _, w2_below _ _ _⟩

set_option maxHeartbeats 2000000 in
theorem rdo_14nv (A : Option Addr) (c n : Nat) (l : List Arc) (u v x : Int) (w : World) (hn : n = l.length) (hl : Arcs w A l) (hu : isV u = true) (hv : isV v = true) (hi : inB l u = true) (hj : inB l v = false) : Calls Tryz.prog 15 #[.slice A n c, .agg #[.int .i64 14, .int .i64 u, .int .i64 v, .int .u64 x]] w (DoPost l ⟨14, u, v, x⟩ w) := by
  have HH := heads A c n l 14 u v x w hn hl
  subst hn
  have HU := HH.is u
  have HV := Lib.hid (HH.is v)
  have HI := HH.inn u
  have HJ := HH.inn v
  have HS := HH.has
  clear HH
  have hq : keysB ⟨14, u, v, x⟩ = true := by unfold keysB; simp [hu, hv, edgeKind]
  have HG := Lib.hid (show doG l ⟨14, u, v, x⟩ = l by unfold doG both; simp [hq, hi, hj])
  have HAn := Lib.hid (show doA l ⟨14, u, v, x⟩ = ⟨5, false, 0, 0, []⟩ by unfold doA both; simp [hq, hi, hj])
  have HL := Lib.hid hl
  rw [hu] at HU
  have HU := Lib.hid HU
  have HV0 := HV.out
  rw [hv] at HV0
  have HV := Lib.hid HV0
  clear HV0
  rw [hi] at HI
  rw [hj] at HJ
  have HI := Lib.hid HI
  have HJ := Lib.hid HJ
  have HS := Lib.hid HS
  clear hl hq hu hv hi hj
  go_enter Tryz.func15, Tryz.ntmps15
  go_wp2_with (first
    | (go_at_call 18; ((with_reducible refine (HU.out).mono ?_); rintro e w' ⟨rfl, rfl⟩))
    | (go_at_call 18; ((with_reducible refine (HV.out).mono ?_); rintro e w' ⟨rfl, rfl⟩))
    | (go_at_call 19; ((with_reducible refine (HI.out).mono ?_); rintro e w' ⟨rfl, rfl⟩))
    | (go_at_call 19; ((with_reducible refine (HJ.out).mono ?_); rintro e w' ⟨rfl, rfl⟩))
    | (go_at_call 31; ((with_reducible refine (HS.out).mono ?_); rintro e w' ⟨rfl, rfl⟩)))
  (try simp only [Exit.inBlock, Exit.then])
  refine rdo_ret rfl rfl rfl (range_new2 _ _ _ _) rfl ?_
  unfold DoPost
  rw [HG.out, HAn.out]
  exact ⟨A, c, none, 0, rfl, HL.out.below (w2_below _ _ _) (Nat.le_refl _), sl_nil _ _, w2_below _ _ _⟩

set_option maxHeartbeats 2000000 in
theorem rdo_15nu (A : Option Addr) (c n : Nat) (l : List Arc) (u v x : Int) (w : World) (hn : n = l.length) (hl : Arcs w A l) (hu : isV u = true) (hv : isV v = true) (hi : inB l u = false) : Calls Tryz.prog 15 #[.slice A n c, .agg #[.int .i64 15, .int .i64 u, .int .i64 v, .int .u64 x]] w (DoPost l ⟨15, u, v, x⟩ w) := by
  have HH := heads A c n l 15 u v x w hn hl
  subst hn
  have HU := HH.is u
  have HV := Lib.hid (HH.is v)
  have HI := HH.inn u
  have HJ := HH.inn v
  have HS := HH.has
  clear HH
  have hq : keysB ⟨15, u, v, x⟩ = true := by unfold keysB; simp [hu, hv, edgeKind]
  have HG := Lib.hid (show doG l ⟨15, u, v, x⟩ = l by unfold doG both; simp [hq, hi])
  have HAn := Lib.hid (show doA l ⟨15, u, v, x⟩ = ⟨5, false, 0, 0, []⟩ by unfold doA both; simp [hq, hi])
  have HL := Lib.hid hl
  rw [hu] at HU
  have HU := Lib.hid HU
  have HV0 := HV.out
  rw [hv] at HV0
  have HV := Lib.hid HV0
  clear HV0
  rw [hi] at HI
  have HI := Lib.hid HI
  have HJ := Lib.hid HJ
  have HS := Lib.hid HS
  clear hl hq hu hv hi
  go_enter Tryz.func15, Tryz.ntmps15
  go_wp2_with (first
    | (go_at_call 18; ((with_reducible refine (HU.out).mono ?_); rintro e w' ⟨rfl, rfl⟩))
    | (go_at_call 18; ((with_reducible refine (HV.out).mono ?_); rintro e w' ⟨rfl, rfl⟩))
    | (go_at_call 19; ((with_reducible refine (HI.out).mono ?_); rintro e w' ⟨rfl, rfl⟩))
    | (go_at_call 19; ((with_reducible refine (HJ.out).mono ?_); rintro e w' ⟨rfl, rfl⟩))
    | (go_at_call 31; ((with_reducible refine (HS.out).mono ?_); rintro e w' ⟨rfl, rfl⟩)))
  (try simp only [Exit.inBlock, Exit.then])
  refine rdo_ret rfl rfl rfl (range_new2 _ _ _ _) rfl ?_
  unfold DoPost
  rw [HG.out, HAn.out]
  exact ⟨A, c, none, 0, rfl, HL.out.below (w2_below _ _ _) (Nat.le_refl _), sl_nil _ _, w2_below _ _ _⟩

set_option maxHeartbeats 2000000 in
theorem rdo_15nv (A : Option Addr) (c n : Nat) (l : List Arc) (u v x : Int) (w : World) (hn : n = l.length) (hl : Arcs w A l) (hu : isV u = true) (hv : isV v = true) (hi : inB l u = true) (hj : inB l v = false) : Calls Tryz.prog 15 #[.slice A n c, .agg #[.int .i64 15, .int .i64 u, .int .i64 v, .int .u64 x]] w (DoPost l ⟨15, u, v, x⟩ w) := by
  have HH := heads A c n l 15 u v x w hn hl
  subst hn
  have HU := HH.is u
  have HV := Lib.hid (HH.is v)
  have HI := HH.inn u
  have HJ := HH.inn v
  have HS := HH.has
  clear HH
  have hq : keysB ⟨15, u, v, x⟩ = true := by unfold keysB; simp [hu, hv, edgeKind]
  have HG := Lib.hid (show doG l ⟨15, u, v, x⟩ = l by unfold doG both; simp [hq, hi, hj])
  have HAn := Lib.hid (show doA l ⟨15, u, v, x⟩ = ⟨5, false, 0, 0, []⟩ by unfold doA both; simp [hq, hi, hj])
  have HL := Lib.hid hl
  rw [hu] at HU
  have HU := Lib.hid HU
  have HV0 := HV.out
  rw [hv] at HV0
  have HV := Lib.hid HV0
  clear HV0
  rw [hi] at HI
  rw [hj] at HJ
  have HI := Lib.hid HI
  have HJ := Lib.hid HJ
  have HS := Lib.hid HS
  clear hl hq hu hv hi hj
  go_enter Tryz.func15, Tryz.ntmps15
  go_wp2_with (first
    | (go_at_call 18; ((with_reducible refine (HU.out).mono ?_); rintro e w' ⟨rfl, rfl⟩))
    | (go_at_call 18; ((with_reducible refine (HV.out).mono ?_); rintro e w' ⟨rfl, rfl⟩))
    | (go_at_call 19; ((with_reducible refine (HI.out).mono ?_); rintro e w' ⟨rfl, rfl⟩))
    | (go_at_call 19; ((with_reducible refine (HJ.out).mono ?_); rintro e w' ⟨rfl, rfl⟩))
    | (go_at_call 31; ((with_reducible refine (HS.out).mono ?_); rintro e w' ⟨rfl, rfl⟩)))
  (try simp only [Exit.inBlock, Exit.then])
  refine rdo_ret rfl rfl rfl (range_new2 _ _ _ _) rfl ?_
  unfold DoPost
  rw [HG.out, HAn.out]
  exact ⟨A, c, none, 0, rfl, HL.out.below (w2_below _ _ _) (Nat.le_refl _), sl_nil _ _, w2_below _ _ _⟩

set_option maxHeartbeats 2000000 in
theorem rdo_14y (A : Option Addr) (c n : Nat) (l : List Arc) (u v x : Int) (w : World) (hn : n = l.length) (hl : Arcs w A l) (hu : isV u = true) (hv : isV v = true) (hi : inB l u = true) (hj : inB l v = true) (hb : hasB l u v = true) : Calls Tryz.prog 15 #[.slice A n c, .agg #[.int .i64 14, .int .i64 u, .int .i64 v, .int .u64 x]] w (DoPost l ⟨14, u, v, x⟩ w) := by
  have HH := heads A c n l 14 u v x w hn hl
  subst hn
  have HU := HH.is u
  have HV := Lib.hid (HH.is v)
  have HI := HH.inn u
  have HJ := HH.inn v
  have HS := HH.has
  clear HH
  have hq : keysB ⟨14, u, v, x⟩ = true := by unfold keysB; simp [hu, hv, edgeKind]
  have HG := Lib.hid (show doG l ⟨14, u, v, x⟩ = l by unfold doG both; simp [hq, hi, hj]; exact withL_hit hb)
  have HAn := Lib.hid (show doA l ⟨14, u, v, x⟩ = ⟨0, false, 0, 0, []⟩ by unfold doA both; simp [hq, hi, hj])
  have HL := Lib.hid hl
  rw [hu] at HU
  have HU := Lib.hid HU
  have HV0 := HV.out
  rw [hv] at HV0
  have HV := Lib.hid HV0
  clear HV0
  rw [hi] at HI
  rw [hj] at HJ
  rw [hb] at HS
  have HI := Lib.hid HI
  have HJ := Lib.hid HJ
  have HS := Lib.hid HS
  clear hl hq hu hv hi hj hb
  go_enter Tryz.func15, Tryz.ntmps15
  go_wp2_with (first
    | (go_at_call 18; ((with_reducible refine (HU.out).mono ?_); rintro e w' ⟨rfl, rfl⟩))
    | (go_at_call 18; ((with_reducible refine (HV.out).mono ?_); rintro e w' ⟨rfl, rfl⟩))
    | (go_at_call 19; ((with_reducible refine (HI.out).mono ?_); rintro e w' ⟨rfl, rfl⟩))
    | (go_at_call 19; ((with_reducible refine (HJ.out).mono ?_); rintro e w' ⟨rfl, rfl⟩))
    | (go_at_call 31; ((with_reducible refine (HS.out).mono ?_); rintro e w' ⟨rfl, rfl⟩)))
  (try simp only [Exit.inBlock, Exit.then])
  refine rdo_ret rfl rfl rfl (range_new2 _ _ _ _) rfl ?_
  unfold DoPost
  rw [HG.out, HAn.out]
  exact ⟨A, c, none, 0, rfl, HL.out.below (w2_below _ _ _) (Nat.le_refl _), sl_nil _ _, w2_below _ _ _⟩

set_option maxHeartbeats 2000000 in
theorem rdo_11n (A : Option Addr) (c n : Nat) (l : List Arc) (u v x : Int) (w : World) (hn : n = l.length) (hl : Arcs w A l) (hs : Rises l) (h40 : l.length ≤ 999) (hu : isV u = true) (hi : inB l u = false) : Calls Tryz.prog 15 #[.slice A n c, .agg #[.int .i64 11, .int .i64 u, .int .i64 v, .int .u64 x]] w (DoPost l ⟨11, u, v, x⟩ w) := by
  have HH := heads A c n l 11 u v x w hn hl
  subst hn
  have HU := HH.is u
  have HV := Lib.hid (HH.is v)
  have HI := HH.inn u
  have HJ := HH.inn v
  have HS := HH.has
  clear HH
  have hq : keysB ⟨11, u, v, x⟩ = true := by unfold keysB; simp [hu, edgeKind]
  have HG := Lib.hid (show doG l ⟨11, u, v, x⟩ = withL l ⟨u, -1, 0⟩ by unfold doG; rw [if_neg (by simp [hq]), if_pos rfl])
  have HAn := Lib.hid (show doA l ⟨11, u, v, x⟩ = ⟨0, true, 0, 0, []⟩ by unfold doA; simp [hq, hi])
  have HL := Lib.hid hl
  have T := Lib.hid (@after3 w 11 u v x)
  have HWi := Lib.hid (refWith_any A c l.length l ⟨u, -1, 0⟩ (w2 w 11 u v x) rfl (hl.below (w2_ok w 11 u v x).2.2 (Nat.le_refl _)) hs h40 (fine_v hu) hi)
  unfold Arc.val at HWi
  simp only at HWi
  rw [hu] at HU
  have HU := Lib.hid HU
  rw [hi] at HI
  have HI := Lib.hid HI
  have HJ := Lib.hid HJ
  have HS := Lib.hid HS
  clear hl hq hs hu hi
  go_enter Tryz.func15, Tryz.ntmps15
  go_wp2_with (first
    | (go_at_call 18; ((with_reducible refine (HU.out).mono ?_); rintro e w' ⟨rfl, rfl⟩))
    | (go_at_call 18; ((with_reducible refine (HV.out).mono ?_); rintro e w' ⟨rfl, rfl⟩))
    | (go_at_call 19; ((with_reducible refine (HI.out).mono ?_); rintro e w' ⟨rfl, rfl⟩))
    | (go_at_call 19; ((with_reducible refine (HJ.out).mono ?_); rintro e w' ⟨rfl, rfl⟩))
    | (go_at_call 31; ((with_reducible refine (HS.out).mono ?_); rintro e w' ⟨rfl, rfl⟩))
    | (go_at_call 32; ((with_reducible refine (HWi.out).mono ?_); rintro e w4 ⟨B, d, rfl, ha4, hb4⟩; have HA4 := Lib.hid ha4; obtain ⟨hz, _, hbb⟩ := T.out _ hb4; have HZ' := Lib.hid hz; have HBk := Lib.hid hbb; obtain ⟨z1, z2, z3, z4, z5, f1, f2, f3, f4, f5⟩ := hz; clear ha4 hb4 hbb)))
  (try simp only [Exit.inBlock, Exit.then])
  exact rdo_fin w4 B none d 0 (w.heap.size + 1) 0 true 0 0 [] (by rw [HG.out]; rfl) rfl rfl HZ'.out (Nat.le_succ _) HBk.out (by rw [HG.out]; exact HA4.out) HAn.out (sl_nil _ _)

set_option maxHeartbeats 2000000 in
theorem rdo_14n (A : Option Addr) (c n : Nat) (l : List Arc) (u v x : Int) (w : World) (hn : n = l.length) (hl : Arcs w A l) (hs : Rises l) (h40 : l.length ≤ 999) (hu : isV u = true) (hv : isV v = true) (hx0 : 0 ≤ x) (hx1 : x < 18446744073709551616) (hi : inB l u = true) (hj : inB l v = true) (hb : hasB l u v = false) : Calls Tryz.prog 15 #[.slice A n c, .agg #[.int .i64 14, .int .i64 u, .int .i64 v, .int .u64 x]] w (DoPost l ⟨14, u, v, x⟩ w) := by
  have HH := heads A c n l 14 u v x w hn hl
  subst hn
  have HU := HH.is u
  have HV := Lib.hid (HH.is v)
  have HI := HH.inn u
  have HJ := HH.inn v
  have HS := HH.has
  clear HH
  have hq : keysB ⟨14, u, v, x⟩ = true := by unfold keysB; simp [hu, hv, edgeKind]
  have HG := Lib.hid (show doG l ⟨14, u, v, x⟩ = withL l ⟨u, v, x⟩ by unfold doG both; simp [hq, hi, hj])
  have HAn := Lib.hid (show doA l ⟨14, u, v, x⟩ = ⟨0, false, 0, 0, []⟩ by unfold doA both; simp [hq, hi, hj])
  have HL := Lib.hid hl
  have T := Lib.hid (@after3 w 14 u v x)
  have HWi := Lib.hid (refWith_any A c l.length l ⟨u, v, x⟩ (w2 w 14 u v x) rfl (hl.below (w2_ok w 14 u v x).2.2 (Nat.le_refl _)) hs h40 (fine_e hu hv hx0 hx1) hb)
  unfold Arc.val at HWi
  simp only at HWi
  rw [hu] at HU
  have HU := Lib.hid HU
  have HV0 := HV.out
  rw [hv] at HV0
  have HV := Lib.hid HV0
  clear HV0
  rw [hi] at HI
  rw [hj] at HJ
  rw [hb] at HS
  have HI := Lib.hid HI
  have HJ := Lib.hid HJ
  have HS := Lib.hid HS
  clear hl hq hs hu hv hi hj hb
  go_enter Tryz.func15, Tryz.ntmps15
  go_wp2_with (first
    | (go_at_call 18; ((with_reducible refine (HU.out).mono ?_); rintro e w' ⟨rfl, rfl⟩))
    | (go_at_call 18; ((with_reducible refine (HV.out).mono ?_); rintro e w' ⟨rfl, rfl⟩))
    | (go_at_call 19; ((with_reducible refine (HI.out).mono ?_); rintro e w' ⟨rfl, rfl⟩))
    | (go_at_call 19; ((with_reducible refine (HJ.out).mono ?_); rintro e w' ⟨rfl, rfl⟩))
    | (go_at_call 31; ((with_reducible refine (HS.out).mono ?_); rintro e w' ⟨rfl, rfl⟩))
    | (go_at_call 32; ((with_reducible refine (HWi.out).mono ?_); rintro e w4 ⟨B, d, rfl, ha4, hb4⟩; have HA4 := Lib.hid ha4; obtain ⟨hz, _, hbb⟩ := T.out _ hb4; have HZ' := Lib.hid hz; have HBk := Lib.hid hbb; obtain ⟨z1, z2, z3, z4, z5, f1, f2, f3, f4, f5⟩ := hz; clear ha4 hb4 hbb)))
  (try simp only [Exit.inBlock, Exit.then])
  exact rdo_fin w4 B none d 0 (w.heap.size + 1) 0 false 0 0 [] (by rw [HG.out]; rfl) rfl rfl HZ'.out (Nat.le_succ _) HBk.out (by rw [HG.out]; exact HA4.out) HAn.out (sl_nil _ _)

set_option maxHeartbeats 2000000 in
theorem rdo_12 (A : Option Addr) (c n : Nat) (l : List Arc) (u v x : Int) (w : World) (hn : n = l.length) (hl : Arcs w A l) (h40 : l.length ≤ 999) (hu : isV u = true) : Calls Tryz.prog 15 #[.slice A n c, .agg #[.int .i64 12, .int .i64 u, .int .i64 v, .int .u64 x]] w (DoPost l ⟨12, u, v, x⟩ w) := by
  have HH := heads A c n l 12 u v x w hn hl
  subst hn
  have HU := HH.is u
  have HV := Lib.hid (HH.is v)
  have HI := HH.inn u
  have HJ := HH.inn v
  have HS := HH.has
  clear HH
  have hq : keysB ⟨12, u, v, x⟩ = true := by unfold keysB; simp [hu, edgeKind]
  have HG := Lib.hid (show doG l ⟨12, u, v, x⟩ = kept l (ends ⟨12, u, v, x⟩) by unfold doG; rw [if_neg (by simp [hq]), if_neg (by simp), if_pos rfl])
  have HAn := Lib.hid (show doA l ⟨12, u, v, x⟩ = ⟨0, inB l u, 0, 0, []⟩ by unfold doA; simp [hq])
  have HL := Lib.hid hl
  have T := Lib.hid (@after3 w 12 u v x)
  have FN := Lib.hid (fun a (h : a ∈ kept l (ends ⟨12, u, v, x⟩)) => hl.2.1 a (kept_mem h))
  rw [hu] at HU
  have HU := Lib.hid HU
  have HI := Lib.hid HI
  have HJ := Lib.hid HJ
  have HS := Lib.hid HS
  clear hl hq hu
  go_enter Tryz.func15, Tryz.ntmps15
  go_wp2_with (first
    | (go_at_call 18; ((with_reducible refine (HU.out).mono ?_); rintro e w' ⟨rfl, rfl⟩))
    | (go_at_call 18; ((with_reducible refine (HV.out).mono ?_); rintro e w' ⟨rfl, rfl⟩))
    | (go_at_call 19; ((with_reducible refine (HI.out).mono ?_); rintro e w' ⟨rfl, rfl⟩))
    | (go_at_call 19; ((with_reducible refine (HJ.out).mono ?_); rintro e w' ⟨rfl, rfl⟩))
    | (go_at_call 31; ((with_reducible refine (HS.out).mono ?_); rintro e w' ⟨rfl, rfl⟩)))
  have W1b := Lib.hid (w2_ok w 12 u v x).2.2
  obtain ⟨⟨q0, q1, q2, q3⟩, _, _⟩ := w2_ok w 12 u v x
  generalize hW1 : w2 w 12 u v x = W1 at *
  go_loopw [13, 14] (fun y iv wr => ∃ k : Nat, k ≤ l.length ∧ iv = .int .i64 k ∧ wr.ownsRow W1.heap.size 60 3 y (kept (l.take k) (ends ⟨12, u, v, x⟩)).length (flat (kept (l.take k) (ends ⟨12, u, v, x⟩))) ∧ Below W1.heap.size W1 wr) (fun _ iv _ => l.length - (intOf iv).toNat)
  case atStart => exact ⟨0, Nat.zero_le _, rfl, World.ownsRow_nil _ _ _ _, Below.refl _ _⟩
  case round =>
    obtain ⟨k, hk, rfl, ho, hb⟩ := hrel
    obtain ⟨T0, tc, hT⟩ := own_any60 ho
    subst hT
    have BD : Hid (∀ q, Below W1.heap.size W1 (wr.drewN q)) := Lib.hid fun q => below_drewN' hb q
    have OD : Hid (∀ q, (wr.drewN q).ownsRow W1.heap.size 60 3 (.slice T0 (kept (l.take k) (ends ⟨12, u, v, x⟩)).length tc) (kept (l.take k) (ends ⟨12, u, v, x⟩)).length (flat (kept (l.take k) (ends ⟨12, u, v, x⟩)))) := Lib.hid fun q => own_drewN ho q
    have ZD : Hid (∀ q, (wr.drewN q).heap.size = wr.heap.size) := Lib.hid fun q => by rw [drewN_heap]
    have HO := Lib.hid ho
    have HB := Lib.hid hb
    have c0 := cellL' q0 hb
    have c1 := cellL' q1 hb
    have c2 := cellL' q2 hb
    have c3 := cellL' q3 hb
    have m1 : (kept (l.take k) (ends ⟨12, u, v, x⟩)).length ≤ 100000 := by have := kept_le (l.take k) (ends ⟨12, u, v, x⟩); rw [List.length_take] at this; omega
    clear ho hb
    by_cases hlt : k < l.length
    · obtain ⟨a, ha⟩ : ∃ a, l[k]? = some a := ⟨_, List.getElem?_eq_getElem hlt⟩
      obtain ⟨b, off, hA, hcs⟩ := (HL.out.below (W1b.out.trans (HB.out.mono W1b.out.size)) (Nat.le_refl _)).2.2 (by omega)
      obtain ⟨e1, e2, e3⟩ := hcs k a ha
      clear hcs
      subst hA
      have i0' : (0 : Int) ≤ (k : Int) := by omega
      have i1' : (k : Int) < (l.length : Int) := by omega
      have kz : IntKind.i64.wrap ((k : Int) + 1) = (k : Int) + 1 := by rw [IntKind.wrap_i64] <;> omega
      by_cases hq1 : a.u = u
      · have hq2 : True := trivial
        have h1e : (a.u == u) = true := by simpa using hq1
        have h1n : (a.u != u) = false := by simpa using hq1
        have HN := Lib.hid (kept_drop (p := ends ⟨12, u, v, x⟩) ha (show ends ⟨12, u, v, x⟩ a = true from decide_eq_true (.inl hq1)))
        clear ha hq1 hq2
        go_wp2
        go_quiet (fail)
        go_wp2
        go_roundw
        case rel => exact ⟨k + 1, by omega, by go_num, by rw [HN.out]; exact OD.out _, BD.out _⟩
        case measure => simp [intOf]; omega
      · by_cases hq2 : a.v = u
        · have h1e : (a.u == u) = false := by simpa using hq1
          have h1n : (a.u != u) = true := by simpa using hq1
          have h2e : (a.v == u) = true := by simpa using hq2
          have h2n : (a.v != u) = false := by simpa using hq2
          have HN := Lib.hid (kept_drop (p := ends ⟨12, u, v, x⟩) ha (show ends ⟨12, u, v, x⟩ a = true from decide_eq_true (.inr hq2)))
          clear ha hq1 hq2
          go_wp2
          go_quiet (fail)
          go_wp2
          go_roundw
          case rel => exact ⟨k + 1, by omega, by go_num, by rw [HN.out]; exact OD.out _, BD.out _⟩
          case measure => simp [intOf]; omega
        · have h1e : (a.u == u) = false := by simpa using hq1
          have h1n : (a.u != u) = true := by simpa using hq1
          have h2e : (a.v == u) = false := by simpa using hq2
          have h2n : (a.v != u) = true := by simpa using hq2
          have HN := Lib.hid (kept_keep (p := ends ⟨12, u, v, x⟩) ha (show ends ⟨12, u, v, x⟩ a = false from by unfold ends; simp [hq1, hq2]))
          clear ha hq1 hq2
          generalize kept (l.take k) (ends ⟨12, u, v, x⟩) = cu at *
          go_wp2
          go_quiet (fail)
          go_wp2_with (
            at_builtin
            refine wpList_app60 rfl (.tmp 107) (.tmp 112) rfl W1.heap.size cu T0 tc wr.heap.size _ a rfl rfl ((OD.out _).alloc _) rfl (row_at _ _ _ (ZD.out _)) m1 ((BD.out _).alloc (BD.out _).size _).size ?_
            intro A5 c5 w5 hown5 hb5
            have HO5 := Lib.hid hown5
            have HB5 := Lib.hid (((BD.out _).alloc (BD.out _).size _).trans hb5)
            clear hown5 hb5)
          go_roundw
          case rel => exact ⟨k + 1, by omega, by go_num, by rw [HN.out]; simpa using HO5.out, HB5.out⟩
          case measure => simp [intOf]; omega
    · obtain rfl : k = l.length := by omega
      have e := Lib.hid (List.take_length (l := l))
      rw [e.out] at HO ⊢
      have hz := (after3 (k := 12) (u := u) (v := v) (x := x) (w := w) wr (by rw [hW1]; exact HB.out))
      have HZ' := Lib.hid hz.1
      have HBk := Lib.hid hz.2.2
      obtain ⟨z1, z2, z3, z4, z5, f1, f2, f3, f4, f5⟩ := hz.1
      clear hz
      go_wp2
      (try simp only [Exit.inBlock, Exit.then])
      exact rdo_fin wr T0 none tc 0 (w.heap.size + 1) 0 _ 0 0 [] (by rw [HG.out]; rfl) rfl rfl HZ'.out (Nat.le_succ _) HBk.out (by rw [HG.out]; exact own_arcs (by have := m1; rw [e.out] at this; omega) FN.out HO.out) HAn.out (sl_nil _ _)

set_option maxHeartbeats 2000000 in
theorem rdo_15 (A : Option Addr) (c n : Nat) (l : List Arc) (u v x : Int) (w : World) (hn : n = l.length) (hl : Arcs w A l) (h40 : l.length ≤ 999) (hu : isV u = true) (hv : isV v = true) (hi : inB l u = true) (hj : inB l v = true) : Calls Tryz.prog 15 #[.slice A n c, .agg #[.int .i64 15, .int .i64 u, .int .i64 v, .int .u64 x]] w (DoPost l ⟨15, u, v, x⟩ w) := by
  have HH := heads A c n l 15 u v x w hn hl
  subst hn
  have HU := HH.is u
  have HV := Lib.hid (HH.is v)
  have HI := HH.inn u
  have HJ := HH.inn v
  have HS := HH.has
  clear HH
  have hq : keysB ⟨15, u, v, x⟩ = true := by unfold keysB; simp [hu, hv, edgeKind]
  have HG := Lib.hid (show doG l ⟨15, u, v, x⟩ = kept l (isE ⟨15, u, v, x⟩) by unfold doG both; simp [hq, hi, hj])
  have HAn := Lib.hid (show doA l ⟨15, u, v, x⟩ = ⟨0, false, 0, 0, []⟩ by unfold doA both; simp [hq, hi, hj])
  have HL := Lib.hid hl
  have T := Lib.hid (@after3 w 15 u v x)
  have FN := Lib.hid (fun a (h : a ∈ kept l (isE ⟨15, u, v, x⟩)) => hl.2.1 a (kept_mem h))
  rw [hu] at HU
  have HU := Lib.hid HU
  have HV0 := HV.out
  rw [hv] at HV0
  have HV := Lib.hid HV0
  clear HV0
  rw [hi] at HI
  rw [hj] at HJ
  have HI := Lib.hid HI
  have HJ := Lib.hid HJ
  have HS := Lib.hid HS
  clear hl hq hu hv hi hj
  go_enter Tryz.func15, Tryz.ntmps15
  go_wp2_with (first
    | (go_at_call 18; ((with_reducible refine (HU.out).mono ?_); rintro e w' ⟨rfl, rfl⟩))
    | (go_at_call 18; ((with_reducible refine (HV.out).mono ?_); rintro e w' ⟨rfl, rfl⟩))
    | (go_at_call 19; ((with_reducible refine (HI.out).mono ?_); rintro e w' ⟨rfl, rfl⟩))
    | (go_at_call 19; ((with_reducible refine (HJ.out).mono ?_); rintro e w' ⟨rfl, rfl⟩))
    | (go_at_call 31; ((with_reducible refine (HS.out).mono ?_); rintro e w' ⟨rfl, rfl⟩)))
  have W1b := Lib.hid (w2_ok w 15 u v x).2.2
  obtain ⟨⟨q0, q1, q2, q3⟩, _, _⟩ := w2_ok w 15 u v x
  generalize hW1 : w2 w 15 u v x = W1 at *
  go_loopw [13, 15] (fun y iv wr => ∃ k : Nat, k ≤ l.length ∧ iv = .int .i64 k ∧ wr.ownsRow W1.heap.size 60 3 y (kept (l.take k) (isE ⟨15, u, v, x⟩)).length (flat (kept (l.take k) (isE ⟨15, u, v, x⟩))) ∧ Below W1.heap.size W1 wr) (fun _ iv _ => l.length - (intOf iv).toNat)
  case atStart => exact ⟨0, Nat.zero_le _, rfl, World.ownsRow_nil _ _ _ _, Below.refl _ _⟩
  case round =>
    obtain ⟨k, hk, rfl, ho, hb⟩ := hrel
    obtain ⟨T0, tc, hT⟩ := own_any60 ho
    subst hT
    have BD : Hid (∀ q, Below W1.heap.size W1 (wr.drewN q)) := Lib.hid fun q => below_drewN' hb q
    have OD : Hid (∀ q, (wr.drewN q).ownsRow W1.heap.size 60 3 (.slice T0 (kept (l.take k) (isE ⟨15, u, v, x⟩)).length tc) (kept (l.take k) (isE ⟨15, u, v, x⟩)).length (flat (kept (l.take k) (isE ⟨15, u, v, x⟩)))) := Lib.hid fun q => own_drewN ho q
    have ZD : Hid (∀ q, (wr.drewN q).heap.size = wr.heap.size) := Lib.hid fun q => by rw [drewN_heap]
    have HO := Lib.hid ho
    have HB := Lib.hid hb
    have c0 := cellL' q0 hb
    have c1 := cellL' q1 hb
    have c2 := cellL' q2 hb
    have c3 := cellL' q3 hb
    have m1 : (kept (l.take k) (isE ⟨15, u, v, x⟩)).length ≤ 100000 := by have := kept_le (l.take k) (isE ⟨15, u, v, x⟩); rw [List.length_take] at this; omega
    clear ho hb
    by_cases hlt : k < l.length
    · obtain ⟨a, ha⟩ : ∃ a, l[k]? = some a := ⟨_, List.getElem?_eq_getElem hlt⟩
      obtain ⟨b, off, hA, hcs⟩ := (HL.out.below (W1b.out.trans (HB.out.mono W1b.out.size)) (Nat.le_refl _)).2.2 (by omega)
      obtain ⟨e1, e2, e3⟩ := hcs k a ha
      clear hcs
      subst hA
      have i0' : (0 : Int) ≤ (k : Int) := by omega
      have i1' : (k : Int) < (l.length : Int) := by omega
      have kz : IntKind.i64.wrap ((k : Int) + 1) = (k : Int) + 1 := by rw [IntKind.wrap_i64] <;> omega
      by_cases hq1 : a.u = u
      · by_cases hq2 : a.v = v
        · have h1e : (a.u == u) = true := by simpa using hq1
          have h1n : (a.u != u) = false := by simpa using hq1
          have h2e : (a.v == v) = true := by simpa using hq2
          have h2n : (a.v != v) = false := by simpa using hq2
          have HN := Lib.hid (kept_drop (p := isE ⟨15, u, v, x⟩) ha (show isE ⟨15, u, v, x⟩ a = true from decide_eq_true ⟨hq1, hq2⟩))
          clear ha hq1 hq2
          go_wp2
          go_quiet (fail)
          go_wp2
          go_roundw
          case rel => exact ⟨k + 1, by omega, by go_num, by rw [HN.out]; exact OD.out _, BD.out _⟩
          case measure => simp [intOf]; omega
        · have h1e : (a.u == u) = true := by simpa using hq1
          have h1n : (a.u != u) = false := by simpa using hq1
          have h2e : (a.v == v) = false := by simpa using hq2
          have h2n : (a.v != v) = true := by simpa using hq2
          have HN := Lib.hid (kept_keep (p := isE ⟨15, u, v, x⟩) ha (show isE ⟨15, u, v, x⟩ a = false from by unfold isE; simp [hq2]))
          clear ha hq1 hq2
          generalize kept (l.take k) (isE ⟨15, u, v, x⟩) = cu at *
          go_wp2
          go_quiet (fail)
          go_wp2_with (
            at_builtin
            refine wpList_app60 rfl (.tmp 185) (.tmp 190) rfl W1.heap.size cu T0 tc wr.heap.size _ a rfl rfl ((OD.out _).alloc _) rfl (row_at _ _ _ (ZD.out _)) m1 ((BD.out _).alloc (BD.out _).size _).size ?_
            intro A5 c5 w5 hown5 hb5
            have HO5 := Lib.hid hown5
            have HB5 := Lib.hid (((BD.out _).alloc (BD.out _).size _).trans hb5)
            clear hown5 hb5)
          go_roundw
          case rel => exact ⟨k + 1, by omega, by go_num, by rw [HN.out]; simpa using HO5.out, HB5.out⟩
          case measure => simp [intOf]; omega
      · have hq2 : True := trivial
        have h1e : (a.u == u) = false := by simpa using hq1
        have h1n : (a.u != u) = true := by simpa using hq1
        have HN := Lib.hid (kept_keep (p := isE ⟨15, u, v, x⟩) ha (show isE ⟨15, u, v, x⟩ a = false from by unfold isE; simp [hq1]))
        clear ha hq1 hq2
        generalize kept (l.take k) (isE ⟨15, u, v, x⟩) = cu at *
        go_wp2
        go_quiet (fail)
        go_wp2_with (
          at_builtin
          refine wpList_app60 rfl (.tmp 185) (.tmp 190) rfl W1.heap.size cu T0 tc wr.heap.size _ a rfl rfl ((OD.out _).alloc _) rfl (row_at _ _ _ (ZD.out _)) m1 ((BD.out _).alloc (BD.out _).size _).size ?_
          intro A5 c5 w5 hown5 hb5
          have HO5 := Lib.hid hown5
          have HB5 := Lib.hid (((BD.out _).alloc (BD.out _).size _).trans hb5)
          clear hown5 hb5)
        go_roundw
        case rel => exact ⟨k + 1, by omega, by go_num, by rw [HN.out]; simpa using HO5.out, HB5.out⟩
        case measure => simp [intOf]; omega
    · obtain rfl : k = l.length := by omega
      have e := Lib.hid (List.take_length (l := l))
      rw [e.out] at HO ⊢
      have hz := (after3 (k := 15) (u := u) (v := v) (x := x) (w := w) wr (by rw [hW1]; exact HB.out))
      have HZ' := Lib.hid hz.1
      have HBk := Lib.hid hz.2.2
      obtain ⟨z1, z2, z3, z4, z5, f1, f2, f3, f4, f5⟩ := hz.1
      clear hz
      go_wp2
      (try simp only [Exit.inBlock, Exit.then])
      exact rdo_fin wr T0 none tc 0 (w.heap.size + 1) 0 _ 0 0 [] (by rw [HG.out]; rfl) rfl rfl HZ'.out (Nat.le_succ _) HBk.out (by rw [HG.out]; exact own_arcs (by have := m1; rw [e.out] at this; omega) FN.out HO.out) HAn.out (sl_nil _ _)

end Go.Proofs.YtpdfmfkoopdfgaaGreatDoor.Gr
end
