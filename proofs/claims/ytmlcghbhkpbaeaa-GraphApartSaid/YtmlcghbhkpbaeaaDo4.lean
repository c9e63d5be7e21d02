/- graph.Do: AddV, AddE. -/
import Derived.Test.YtmlcghbhkpbaeaaDo3
namespace Go.Proofs.Ytmlcghbhkpbaeaa
open Go.RowKit Aid

theorem withAll {A : Option Addr} {c : Nat} {l : List Arc} {w : World} {k u v x : Int} (hl : Arcs w A l) (hs : Rises l) (h40 : l.length ≤ 999) (y : Arc) (hy : y.Fine) : ∀ W, Below (w2 w k u v x).heap.size (w2 w k u v x) W → Calls Try.prog 21 #[.slice A l.length c, .agg #[.int .i64 y.u, .int .i64 y.v, .int .u64 y.w]] W fun e w' => ∃ B d, e = .returned (.slice B (withL l y).length d) ∧ Arcs w' B (withL l y) ∧ Below W.heap.size W w' := fun W h => with_any A c l.length l y W rfl (hl.below (after2 W h).2.2 (Nat.le_refl _)) hs h40 hy
theorem keys_u {k u v x : Int} (h : keysB ⟨k, u, v, x⟩ = true) : isV u = true := by
  unfold keysB at h
  split at h
  · exact (Bool.and_eq_true _ _ ▸ h).1
  · exact h
theorem keys_v {k u v x : Int} (hk : k = 14 ∨ k = 15 ∨ k = 16) (h : keysB ⟨k, u, v, x⟩ = true) : isV v = true := by
  unfold keysB at h
  rw [if_pos (show edgeKind k = true from decide_eq_true hk)] at h
  exact (Bool.and_eq_true _ _ ▸ h).2
theorem fine_v {u : Int} (h : isV u = true) : Arc.Fine ⟨u, -1, 0⟩ := by
  have := isV_t h
  unfold Arc.Fine
  simp only
  omega
theorem fine_e {u v x : Int} (h : isV u = true) (h2 : isV v = true) (h3 : 0 ≤ x) (h4 : x < 18446744073709551616) : Arc.Fine ⟨u, v, x⟩ := by
  have := isV_t h
  have := isV_t h2
  unfold Arc.Fine
  simp only
  omega
set_option maxHeartbeats 8000000 in
set_option maxRecDepth 100000 in
theorem do_addv (A : Option Addr) (c n : Nat) (l : List Arc) (u v x : Int) (w : World) (hn : n = l.length) (hl : Arcs w A l) (hs : Rises l) (h40 : l.length ≤ 999) (hq : keysB ⟨11, u, v, x⟩ = true) : Calls Try.prog 10 #[.slice A n c, .agg #[.int .i64 11, .int .i64 u, .int .i64 v, .int .u64 x]] w (DoPost l ⟨11, u, v, x⟩ w) := by
  subst hn
  have HG : Hid (doG l ⟨11, u, v, x⟩ = withL l ⟨u, -1, 0⟩) := Lib.hid (by
    unfold doG
    rw [if_neg (by simp [hq]), if_pos rfl])
  have HAn : Hid (doA l ⟨11, u, v, x⟩ = ⟨0, !inB l u, 0, 0, []⟩) := Lib.hid (by
    unfold doA
    rw [if_neg (by simp), if_neg (by rw [hq]; simp), if_pos rfl])
  have HL := Lib.hid hl
  have T := Lib.hid (@after3 w 11 u v x)
  have HK := Lib.hid (keys_any ⟨11, u, v, x⟩ (w2 w 11 u v x))
  have HIu := Lib.hid (fun W h => @inAll A c l w 11 u v x hl hs (by omega) W h u)
  have HIv := Lib.hid (fun W h => @inAll A c l w 11 u v x hl hs (by omega) W h v)
  rw [hq] at HK
  unfold Op.val at HK
  simp only at HK
  have HH := Lib.hid (@withAll A c l w 11 u v x hl hs h40 ⟨u, -1, 0⟩ (fine_v (keys_u hq)))
  clear hl hq hs
  generalize inB l u = U at HAn HIu
  generalize inB l v = V at HIv
  generalize withL l ⟨u, -1, 0⟩ = M at HG HH
  cases U
  · go_enter Try.func10, Try.ntmps10
    go_wp2_with (first
      | (go_at_call 19; ((with_reducible refine HK.out.mono ?_); rintro e w' ⟨rfl, hb⟩; have Hc := Lib.hid hb; obtain ⟨hz, ⟨c1, c2, c3, c4⟩, _⟩ := T.out _ hb; have HZ' := Lib.hid hz; clear hb hz))
      | (go_at_call 20; ((with_reducible refine (HIu.out _ Hc.out).mono ?_); rintro e w4 ⟨rfl, hb⟩; have Hd := Lib.hid (Hc.out.trans (hb.mono Hc.out.size)); clear hb Hc HZ' c1 c2 c3 c4; have Hc := Hd; clear Hd; obtain ⟨hz, ⟨c1, c2, c3, c4⟩, _⟩ := T.out _ Hc.out; have HZ' := Lib.hid hz; have Ha := Lib.hid (Hc.out.alloc Hc.out.size (.cells #[.int .i64 0, .bool false, .int .i64 0, .int .u64 0, .slice none 0 0] 31)); obtain ⟨_, ⟨e1, e2, e3, e4⟩, _⟩ := T.out _ Ha.out; clear hz))
      | (go_at_call 20; ((with_reducible refine (HIv.out _ Hc.out).mono ?_); rintro e w5 ⟨rfl, hb⟩; clear Ha e1 e2 e3 e4; have Hd := Lib.hid (Hc.out.trans (hb.mono Hc.out.size)); clear hb Hc HZ' c1 c2 c3 c4; have Hc := Hd; clear Hd; obtain ⟨hz, ⟨c1, c2, c3, c4⟩, _⟩ := T.out _ Hc.out; have HZ' := Lib.hid hz; have Ha := Lib.hid (Hc.out.alloc Hc.out.size (.cells #[.int .i64 0, .bool false, .int .i64 0, .int .u64 0, .slice none 0 0] 31)); obtain ⟨_, ⟨e1, e2, e3, e4⟩, _⟩ := T.out _ Ha.out; clear hz))
      | (go_at_call 21; ((with_reducible refine (HH.out _ Ha.out).mono ?_); rintro e w6 ⟨B, d, rfl, h1, hb⟩; have H1 := Lib.hid h1; have Hd := Lib.hid (Ha.out.trans (hb.mono Ha.out.size)); clear hb h1; obtain ⟨hz9, _, hb9⟩ := T.out _ Hd.out; have HZ9 := Lib.hid hz9; have HB9 := Lib.hid hb9; obtain ⟨z1, z2, z3, z4, z5, f1, f2, f3, f4, f5⟩ := hz9; clear hb9)))
    all_goals (try simp only [Exit.inBlock, Exit.then])
    all_goals exact do_fin w6 B none d 0 (w.heap.size + 1) 0 true 0 0 [] (by rw [HG.out]; rfl) rfl rfl HZ9.out (Nat.le_succ _) HB9.out (by rw [HG.out]; exact H1.out) HAn.out (sl_nil _ _)
  · go_enter Try.func10, Try.ntmps10
    go_wp2_with (first
      | (go_at_call 19; ((with_reducible refine HK.out.mono ?_); rintro e w' ⟨rfl, hb⟩; have Hc := Lib.hid hb; obtain ⟨hz, ⟨c1, c2, c3, c4⟩, _⟩ := T.out _ hb; have HZ' := Lib.hid hz; clear hb hz))
      | (go_at_call 20; ((with_reducible refine (HIu.out _ Hc.out).mono ?_); rintro e w4 ⟨rfl, hb⟩; have Hd := Lib.hid (Hc.out.trans (hb.mono Hc.out.size)); clear hb Hc HZ' c1 c2 c3 c4; have Hc := Hd; clear Hd; obtain ⟨hz, ⟨c1, c2, c3, c4⟩, _⟩ := T.out _ Hc.out; have HZ' := Lib.hid hz; have Ha := Lib.hid (Hc.out.alloc Hc.out.size (.cells #[.int .i64 0, .bool true, .int .i64 0, .int .u64 0, .slice none 0 0] 31)); obtain ⟨_, ⟨e1, e2, e3, e4⟩, _⟩ := T.out _ Ha.out; clear hz))
      | (go_at_call 20; ((with_reducible refine (HIv.out _ Hc.out).mono ?_); rintro e w5 ⟨rfl, hb⟩; clear Ha e1 e2 e3 e4; have Hd := Lib.hid (Hc.out.trans (hb.mono Hc.out.size)); clear hb Hc HZ' c1 c2 c3 c4; have Hc := Hd; clear Hd; obtain ⟨hz, ⟨c1, c2, c3, c4⟩, _⟩ := T.out _ Hc.out; have HZ' := Lib.hid hz; have Ha := Lib.hid (Hc.out.alloc Hc.out.size (.cells #[.int .i64 0, .bool true, .int .i64 0, .int .u64 0, .slice none 0 0] 31)); obtain ⟨_, ⟨e1, e2, e3, e4⟩, _⟩ := T.out _ Ha.out; clear hz))
      | (go_at_call 21; ((with_reducible refine (HH.out _ Ha.out).mono ?_); rintro e w6 ⟨B, d, rfl, h1, hb⟩; have H1 := Lib.hid h1; have Hd := Lib.hid (Ha.out.trans (hb.mono Ha.out.size)); clear hb h1; obtain ⟨hz9, _, hb9⟩ := T.out _ Hd.out; have HZ9 := Lib.hid hz9; have HB9 := Lib.hid hb9; obtain ⟨z1, z2, z3, z4, z5, f1, f2, f3, f4, f5⟩ := hz9; clear hb9)))
    all_goals (try simp only [Exit.inBlock, Exit.then])
    all_goals exact do_fin w6 B none d 0 (w.heap.size + 1) 0 false 0 0 [] (by rw [HG.out]; rfl) rfl rfl HZ9.out (Nat.le_succ _) HB9.out (by rw [HG.out]; exact H1.out) HAn.out (sl_nil _ _)
set_option maxHeartbeats 8000000 in
set_option maxRecDepth 100000 in
theorem do_adde (A : Option Addr) (c n : Nat) (l : List Arc) (u v x : Int) (w : World) (hn : n = l.length) (hl : Arcs w A l) (hs : Rises l) (h40 : l.length ≤ 999) (hx0 : 0 ≤ x) (hx1 : x < 18446744073709551616) (hq : keysB ⟨14, u, v, x⟩ = true) : Calls Try.prog 10 #[.slice A n c, .agg #[.int .i64 14, .int .i64 u, .int .i64 v, .int .u64 x]] w (DoPost l ⟨14, u, v, x⟩ w) := by
  subst hn
  have hg : doG l ⟨14, u, v, x⟩ = if (inB l u && inB l v) = true then withL l ⟨u, v, x⟩ else l := by
    unfold doG both
    rw [if_neg (by simp [hq]), if_neg (by simp), if_neg (by simp)]
    by_cases hh : (inB l u && inB l v) = true
    · rw [if_pos ⟨rfl, hh⟩, if_pos hh]
    · rw [if_neg (fun e => hh e.2), if_neg (by simp), if_neg hh]
  have ha : doA l ⟨14, u, v, x⟩ = if (inB l u && inB l v) = true then ⟨0, false, 0, 0, []⟩ else ⟨5, false, 0, 0, []⟩ := by
    unfold doA both
    rw [if_neg (by simp), if_neg (by rw [hq]; simp), if_neg (by simp), if_neg (by simp), if_neg (by simp), if_neg (by simp)]
    by_cases hh : (inB l u && inB l v) = true
    · rw [if_neg (by rw [hh]; simp), if_pos hh]
    · rw [if_pos (by simpa using hh), if_neg hh]
  have HL := Lib.hid hl
  have T := Lib.hid (@after3 w 14 u v x)
  have HK := Lib.hid (keys_any ⟨14, u, v, x⟩ (w2 w 14 u v x))
  have HIu := Lib.hid (fun W h => @inAll A c l w 14 u v x hl hs (by omega) W h u)
  have HIv := Lib.hid (fun W h => @inAll A c l w 14 u v x hl hs (by omega) W h v)
  rw [hq] at HK
  unfold Op.val at HK
  simp only at HK
  have HH := Lib.hid (@withAll A c l w 14 u v x hl hs h40 ⟨u, v, x⟩ (fine_e (keys_u hq) (keys_v (.inl rfl) hq) hx0 hx1))
  clear hl hq hs hx0 hx1
  generalize inB l u = U at hg ha HIu
  generalize inB l v = V at hg ha HIv
  generalize withL l ⟨u, v, x⟩ = M at hg HH
  cases U
  · have HG := Lib.hid (show doG l ⟨14, u, v, x⟩ = l from hg.trans (by simp))
    have HAn := Lib.hid (show doA l ⟨14, u, v, x⟩ = ⟨5, false, 0, 0, []⟩ from ha.trans (by simp))
    clear hg ha
    go_enter Try.func10, Try.ntmps10
    go_wp2_with (first
      | (go_at_call 19; ((with_reducible refine HK.out.mono ?_); rintro e w' ⟨rfl, hb⟩; have Hc := Lib.hid hb; obtain ⟨hz, ⟨c1, c2, c3, c4⟩, _⟩ := T.out _ hb; have HZ' := Lib.hid hz; clear hb hz))
      | (go_at_call 20; ((with_reducible refine (HIu.out _ Hc.out).mono ?_); rintro e w4 ⟨rfl, hb⟩; have Hd := Lib.hid (Hc.out.trans (hb.mono Hc.out.size)); clear hb Hc HZ' c1 c2 c3 c4; have Hc := Hd; clear Hd; obtain ⟨hz, ⟨c1, c2, c3, c4⟩, _⟩ := T.out _ Hc.out; have HZ' := Lib.hid hz; have Ha := Lib.hid (Hc.out.alloc Hc.out.size (.cells #[.int .i64 0, .bool false, .int .i64 0, .int .u64 0, .slice none 0 0] 31)); obtain ⟨hz9, ⟨e1, e2, e3, e4⟩, hb9⟩ := T.out _ Ha.out; have HZ9 := Lib.hid hz9; have HB9 := Lib.hid hb9; obtain ⟨z1, z2, z3, z4, z5, f1, f2, f3, f4, f5⟩ := hz9; clear hb9; clear hz))
      | (go_at_call 20; ((with_reducible refine (HIv.out _ Hc.out).mono ?_); rintro e w5 ⟨rfl, hb⟩; clear Ha e1 e2 e3 e4 HZ9 HB9 z1 z2 z3 z4 z5 f1 f2 f3 f4 f5; have Hd := Lib.hid (Hc.out.trans (hb.mono Hc.out.size)); clear hb Hc HZ' c1 c2 c3 c4; have Hc := Hd; clear Hd; obtain ⟨hz, ⟨c1, c2, c3, c4⟩, _⟩ := T.out _ Hc.out; have HZ' := Lib.hid hz; have Ha := Lib.hid (Hc.out.alloc Hc.out.size (.cells #[.int .i64 0, .bool false, .int .i64 0, .int .u64 0, .slice none 0 0] 31)); obtain ⟨hz9, ⟨e1, e2, e3, e4⟩, hb9⟩ := T.out _ Ha.out; have HZ9 := Lib.hid hz9; have HB9 := Lib.hid hb9; obtain ⟨z1, z2, z3, z4, z5, f1, f2, f3, f4, f5⟩ := hz9; clear hb9; clear hz)))
    all_goals (try simp only [Exit.inBlock, Exit.then])
    all_goals exact do_fin (w4.alloc (.cells #[.int .i64 0, .bool false, .int .i64 0, .int .u64 0, .slice none 0 0] 31)) A none c 0 (w.heap.size + 1) 5 false 0 0 [] (by rw [HG.out]; rfl) rfl rfl HZ9.out (Nat.le_succ _) HB9.out (by rw [HG.out]; exact HL.out.below HB9.out (Nat.le_refl _)) HAn.out (sl_nil _ _)
  · cases V
    · have HG := Lib.hid (show doG l ⟨14, u, v, x⟩ = l from hg.trans (by simp))
      have HAn := Lib.hid (show doA l ⟨14, u, v, x⟩ = ⟨5, false, 0, 0, []⟩ from ha.trans (by simp))
      clear hg ha
      go_enter Try.func10, Try.ntmps10
      go_wp2_with (first
      | (go_at_call 19; ((with_reducible refine HK.out.mono ?_); rintro e w' ⟨rfl, hb⟩; have Hc := Lib.hid hb; obtain ⟨hz, ⟨c1, c2, c3, c4⟩, _⟩ := T.out _ hb; have HZ' := Lib.hid hz; clear hb hz))
      | (go_at_call 20; ((with_reducible refine (HIu.out _ Hc.out).mono ?_); rintro e w4 ⟨rfl, hb⟩; have Hd := Lib.hid (Hc.out.trans (hb.mono Hc.out.size)); clear hb Hc HZ' c1 c2 c3 c4; have Hc := Hd; clear Hd; obtain ⟨hz, ⟨c1, c2, c3, c4⟩, _⟩ := T.out _ Hc.out; have HZ' := Lib.hid hz; have Ha := Lib.hid (Hc.out.alloc Hc.out.size (.cells #[.int .i64 0, .bool true, .int .i64 0, .int .u64 0, .slice none 0 0] 31)); obtain ⟨hz9, ⟨e1, e2, e3, e4⟩, hb9⟩ := T.out _ Ha.out; have HZ9 := Lib.hid hz9; have HB9 := Lib.hid hb9; obtain ⟨z1, z2, z3, z4, z5, f1, f2, f3, f4, f5⟩ := hz9; clear hb9; clear hz))
      | (go_at_call 20; ((with_reducible refine (HIv.out _ Hc.out).mono ?_); rintro e w5 ⟨rfl, hb⟩; clear Ha e1 e2 e3 e4 HZ9 HB9 z1 z2 z3 z4 z5 f1 f2 f3 f4 f5; have Hd := Lib.hid (Hc.out.trans (hb.mono Hc.out.size)); clear hb Hc HZ' c1 c2 c3 c4; have Hc := Hd; clear Hd; obtain ⟨hz, ⟨c1, c2, c3, c4⟩, _⟩ := T.out _ Hc.out; have HZ' := Lib.hid hz; have Ha := Lib.hid (Hc.out.alloc Hc.out.size (.cells #[.int .i64 0, .bool true, .int .i64 0, .int .u64 0, .slice none 0 0] 31)); obtain ⟨hz9, ⟨e1, e2, e3, e4⟩, hb9⟩ := T.out _ Ha.out; have HZ9 := Lib.hid hz9; have HB9 := Lib.hid hb9; obtain ⟨z1, z2, z3, z4, z5, f1, f2, f3, f4, f5⟩ := hz9; clear hb9; clear hz)))
      all_goals (try simp only [Exit.inBlock, Exit.then])
      all_goals exact do_fin (w5.alloc (.cells #[.int .i64 0, .bool true, .int .i64 0, .int .u64 0, .slice none 0 0] 31)) A none c 0 (w.heap.size + 1) 5 false 0 0 [] (by rw [HG.out]; rfl) rfl rfl HZ9.out (Nat.le_succ _) HB9.out (by rw [HG.out]; exact HL.out.below HB9.out (Nat.le_refl _)) HAn.out (sl_nil _ _)
    · have HG := Lib.hid (show doG l ⟨14, u, v, x⟩ = M from hg.trans (by simp))
      have HAn := Lib.hid (show doA l ⟨14, u, v, x⟩ = ⟨0, false, 0, 0, []⟩ from ha.trans (by simp))
      clear hg ha
      go_enter Try.func10, Try.ntmps10
      go_wp2_with (first
      | (go_at_call 19; ((with_reducible refine HK.out.mono ?_); rintro e w' ⟨rfl, hb⟩; have Hc := Lib.hid hb; obtain ⟨hz, ⟨c1, c2, c3, c4⟩, _⟩ := T.out _ hb; have HZ' := Lib.hid hz; clear hb hz))
      | (go_at_call 20; ((with_reducible refine (HIu.out _ Hc.out).mono ?_); rintro e w4 ⟨rfl, hb⟩; have Hd := Lib.hid (Hc.out.trans (hb.mono Hc.out.size)); clear hb Hc HZ' c1 c2 c3 c4; have Hc := Hd; clear Hd; obtain ⟨hz, ⟨c1, c2, c3, c4⟩, _⟩ := T.out _ Hc.out; have HZ' := Lib.hid hz; have Ha := Lib.hid (Hc.out.alloc Hc.out.size (.cells #[.int .i64 0, .bool true, .int .i64 0, .int .u64 0, .slice none 0 0] 31)); obtain ⟨_, ⟨e1, e2, e3, e4⟩, _⟩ := T.out _ Ha.out; clear hz))
      | (go_at_call 20; ((with_reducible refine (HIv.out _ Hc.out).mono ?_); rintro e w5 ⟨rfl, hb⟩; clear Ha e1 e2 e3 e4; have Hd := Lib.hid (Hc.out.trans (hb.mono Hc.out.size)); clear hb Hc HZ' c1 c2 c3 c4; have Hc := Hd; clear Hd; obtain ⟨hz, ⟨c1, c2, c3, c4⟩, _⟩ := T.out _ Hc.out; have HZ' := Lib.hid hz; have Ha := Lib.hid (Hc.out.alloc Hc.out.size (.cells #[.int .i64 0, .bool true, .int .i64 0, .int .u64 0, .slice none 0 0] 31)); obtain ⟨_, ⟨e1, e2, e3, e4⟩, _⟩ := T.out _ Ha.out; clear hz))
      | (go_at_call 21; ((with_reducible refine (HH.out _ Ha.out).mono ?_); rintro e w6 ⟨B, d, rfl, h1, hb⟩; have H1 := Lib.hid h1; have Hd := Lib.hid (Ha.out.trans (hb.mono Ha.out.size)); clear hb h1; obtain ⟨hz9, _, hb9⟩ := T.out _ Hd.out; have HZ9 := Lib.hid hz9; have HB9 := Lib.hid hb9; obtain ⟨z1, z2, z3, z4, z5, f1, f2, f3, f4, f5⟩ := hz9; clear hb9)))
      all_goals (try simp only [Exit.inBlock, Exit.then])
      all_goals exact do_fin w6 B none d 0 (w.heap.size + 1) 0 false 0 0 [] (by rw [HG.out]; rfl) rfl rfl HZ9.out (Nat.le_succ _) HB9.out (by rw [HG.out]; exact H1.out) HAn.out (sl_nil _ _)
end Go.Proofs.Ytmlcghbhkpbaeaa
