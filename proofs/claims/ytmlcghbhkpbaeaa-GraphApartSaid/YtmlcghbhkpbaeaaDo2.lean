/- graph.Do: questions. -/
import Derived.Test.YtmlcghbhkpbaeaaDo1
namespace Go.Proofs.Ytmlcghbhkpbaeaa
open Go.RowKit Aid

theorem after3 {w : World} {k u v x : Int} : ∀ w', Below (w2 w k u v x).heap.size (w2 w k u v x) w' → ZeroOut w' (w.heap.size + 1) ∧ (w'.cell? ⟨w.heap.size, 0, none⟩ = some (.int .i64 k) ∧ w'.cell? ⟨w.heap.size, 1, none⟩ = some (.int .i64 u) ∧ w'.cell? ⟨w.heap.size, 2, none⟩ = some (.int .i64 v) ∧ w'.cell? ⟨w.heap.size, 3, none⟩ = some (.int .u64 x)) ∧ Below w.heap.size w w' := fun w' h => by
  obtain ⟨h1, h2, h3⟩ := after2 w' h
  exact ⟨h1, h2, h3⟩
theorem inAll {A : Option Addr} {c : Nat} {l : List Arc} {w : World} {k u v x : Int} (hl : Arcs w A l) (hs : Rises l) (h40 : l.length ≤ 1000) : ∀ W, Below (w2 w k u v x).heap.size (w2 w k u v x) W → ∀ y, Calls Try.prog 20 #[.slice A l.length c, .int .i64 y, .int .i64 (-1)] W fun e w' => e = .returned (.bool (inB l y)) ∧ Below W.heap.size W w' := fun W h y => in_any A c l.length l y (-1) W rfl (hl.below (after2 W h).2.2 (Nat.le_refl _)) hs h40
theorem doG_plain {l : List Arc} {o : Op} (h1 : 11 ≤ o.k) (h2 : o.k ≤ 17) (hq : keysB o = true) (h : o.k = 13 ∨ o.k = 16 ∨ o.k = 17) : doG l o = l := by
  unfold doG
  rw [if_neg (by simp [hq]; omega), if_neg (by omega), if_neg (by omega), if_neg (by omega), if_neg (by omega)]
theorem do_finD {l : List Arc} {o : Op} {w : World} {a : Act} (W : World) (B C : Option Addr) (d f b : Nat) (e : Int) (i : Bool) (n x : Int) (li : List Int) (h4 : a.tmps.getD 4 undef = .slice B (doG l o).length d) (h5 : a.tmps.getD 5 undef = .pointer (some ⟨b, 0, none⟩)) (hd : a.defers = [])
    (hz : ZeroOut W b) (hb : w.heap.size ≤ b) (hbW : Below w.heap.size w W) (harcs : Arcs W B (doG l o)) (ha : doA l o = ⟨e, i, n, x, li⟩) (hs : Sl (W.setCells b 0 [.int .i64 e, .bool i, .int .i64 n, .int .u64 x, .slice C li.length f]) C (li.map (Value.int .i64))) :
    bodyPost Try.prog Try.f10 (DoPost l o w) .ret a (W.setCells b 0 [.int .i64 e, .bool i, .int .i64 n, .int .u64 x, .slice C li.length f]).drew := by
  refine do_ret h4 h5 hd ((World.rangeAt_drew _ _ _ _).2 (World.rangeAt_setCells_same W b 0 [.int .i64 e, .bool i, .int .i64 n, .int .u64 x, .slice C li.length f] hz.there)) rfl ?_
  unfold DoPost
  rw [ha]
  exact ⟨B, d, C, f, rfl, (arcs_box hz harcs _ rfl).below (Below.refl _ _).drew (Nat.le_refl _), hs.below (Below.refl _ _).drew (Nat.le_refl _), (below_set b hb _ 0 hbW).drew⟩
set_option maxHeartbeats 8000000 in
set_option maxRecDepth 100000 in
theorem do_hasv (A : Option Addr) (c n : Nat) (l : List Arc) (u v x : Int) (w : World) (hn : n = l.length) (hl : Arcs w A l) (hs : Rises l) (h40 : l.length ≤ 999) (hq : keysB ⟨13, u, v, x⟩ = true) : Calls Try.prog 10 #[.slice A n c, .agg #[.int .i64 13, .int .i64 u, .int .i64 v, .int .u64 x]] w (DoPost l ⟨13, u, v, x⟩ w) := by
  subst hn
  have HG := Lib.hid (doG_plain (l := l) (o := ⟨13, u, v, x⟩) (by simp) (by simp) hq (.inl rfl))
  have HAn : Hid (doA l ⟨13, u, v, x⟩ = ⟨0, inB l u, 0, 0, []⟩) := Lib.hid (by
    unfold doA
    rw [if_neg (by simp), if_neg (by rw [hq]; simp), if_neg (by simp), if_pos (by simp)])
  have HL := Lib.hid hl
  have T := Lib.hid (@after3 w 13 u v x)
  have HK := Lib.hid (keys_any ⟨13, u, v, x⟩ (w2 w 13 u v x))
  have HIu := Lib.hid (fun W h => @inAll A c l w 13 u v x hl hs (by omega) W h u)
  have HIv := Lib.hid (fun W h => @inAll A c l w 13 u v x hl hs (by omega) W h v)
  rw [hq] at HK
  unfold Op.val at HK
  simp only at HK
  clear hl hq hs
  generalize inB l u = U at HAn HIu
  generalize inB l v = V at HIv
  cases U
  · go_enter Try.func10, Try.ntmps10
    go_wp2_with (first
      | (go_at_call 19; ((with_reducible refine HK.out.mono ?_); rintro e w' ⟨rfl, hb⟩; have Hc := Lib.hid hb; obtain ⟨hz, ⟨c1, c2, c3, c4⟩, _⟩ := T.out _ hb; have HZ' := Lib.hid hz; clear hb hz))
      | (go_at_call 20; ((with_reducible refine (HIu.out _ Hc.out).mono ?_); rintro e w4 ⟨rfl, hb⟩; have Hd := Lib.hid (Hc.out.trans (hb.mono Hc.out.size)); clear hb Hc HZ' c1 c2 c3 c4; have Hc := Hd; clear Hd; obtain ⟨hz, ⟨c1, c2, c3, c4⟩, _⟩ := T.out _ Hc.out; have HZ' := Lib.hid hz; have Ha := Lib.hid (Hc.out.alloc Hc.out.size (.cells #[.int .i64 0, .bool false, .int .i64 0, .int .u64 0, .slice none 0 0] 31)); obtain ⟨_, ⟨e1, e2, e3, e4⟩, _⟩ := T.out _ Ha.out; clear hz))
      | (go_at_call 20; ((with_reducible refine (HIv.out _ Hc.out).mono ?_); rintro e w5 ⟨rfl, hb⟩; clear Ha e1 e2 e3 e4; have Hd := Lib.hid (Hc.out.trans (hb.mono Hc.out.size)); clear hb Hc HZ' c1 c2 c3 c4; have Hc := Hd; clear Hd; obtain ⟨hz, ⟨c1, c2, c3, c4⟩, _⟩ := T.out _ Hc.out; have HZ' := Lib.hid hz; have Ha := Lib.hid (Hc.out.alloc Hc.out.size (.cells #[.int .i64 0, .bool false, .int .i64 0, .int .u64 0, .slice none 0 0] 31)); obtain ⟨_, ⟨e1, e2, e3, e4⟩, _⟩ := T.out _ Ha.out; clear hz)))
    obtain ⟨hz9, _, hb9⟩ := T.out _ Ha.out
    have HZ9 := Lib.hid hz9
    have HB9 := Lib.hid hb9
    obtain ⟨hz8, _, _⟩ := T.out _ Ha.out
    obtain ⟨z1, z2, z3, z4, z5, f1, f2, f3, f4, f5⟩ := hz8
    clear hb9 hz9
    have t1 : (w4.alloc (.cells #[.int .i64 0, .bool false, .int .i64 0, .int .u64 0, .slice none 0 0] 31)).cell? ⟨w4.heap.size, 0, none⟩ = some (.int .i64 0) := by
      rw [World.cell?_alloc_new]; rfl
    have t2 : (w4.alloc (.cells #[.int .i64 0, .bool false, .int .i64 0, .int .u64 0, .slice none 0 0] 31)).cell? ⟨w4.heap.size, 1, none⟩ = some (.bool false) := by
      rw [World.cell?_alloc_new]; rfl
    have t3 : (w4.alloc (.cells #[.int .i64 0, .bool false, .int .i64 0, .int .u64 0, .slice none 0 0] 31)).cell? ⟨w4.heap.size, 2, none⟩ = some (.int .i64 0) := by
      rw [World.cell?_alloc_new]; rfl
    have t4 : (w4.alloc (.cells #[.int .i64 0, .bool false, .int .i64 0, .int .u64 0, .slice none 0 0] 31)).cell? ⟨w4.heap.size, 3, none⟩ = some (.int .u64 0) := by
      rw [World.cell?_alloc_new]; rfl
    have t5 : (w4.alloc (.cells #[.int .i64 0, .bool false, .int .i64 0, .int .u64 0, .slice none 0 0] 31)).cell? ⟨w4.heap.size, 4, none⟩ = some (.slice none 0 0) := by
      rw [World.cell?_alloc_new]; rfl
    go_region
    all_goals go_wp2
    trace_state
    all_goals (try simp only [Exit.inBlock, Exit.then])
    all_goals exact do_finD (w4.alloc (.cells #[.int .i64 0, .bool false, .int .i64 0, .int .u64 0, .slice none 0 0] 31)) A none c 0 (w.heap.size + 1) 0 false 0 0 [] (by rw [HG.out]; rfl) rfl rfl HZ9.out (Nat.le_succ _) HB9.out (by rw [HG.out]; exact HL.out.below HB9.out (Nat.le_refl _)) HAn.out (sl_nil _ _)
  · go_enter Try.func10, Try.ntmps10
    go_wp2_with (first
      | (go_at_call 19; ((with_reducible refine HK.out.mono ?_); rintro e w' ⟨rfl, hb⟩; have Hc := Lib.hid hb; obtain ⟨hz, ⟨c1, c2, c3, c4⟩, _⟩ := T.out _ hb; have HZ' := Lib.hid hz; clear hb hz))
      | (go_at_call 20; ((with_reducible refine (HIu.out _ Hc.out).mono ?_); rintro e w4 ⟨rfl, hb⟩; have Hd := Lib.hid (Hc.out.trans (hb.mono Hc.out.size)); clear hb Hc HZ' c1 c2 c3 c4; have Hc := Hd; clear Hd; obtain ⟨hz, ⟨c1, c2, c3, c4⟩, _⟩ := T.out _ Hc.out; have HZ' := Lib.hid hz; have Ha := Lib.hid (Hc.out.alloc Hc.out.size (.cells #[.int .i64 0, .bool true, .int .i64 0, .int .u64 0, .slice none 0 0] 31)); obtain ⟨_, ⟨e1, e2, e3, e4⟩, _⟩ := T.out _ Ha.out; clear hz))
      | (go_at_call 20; ((with_reducible refine (HIv.out _ Hc.out).mono ?_); rintro e w5 ⟨rfl, hb⟩; clear Ha e1 e2 e3 e4; have Hd := Lib.hid (Hc.out.trans (hb.mono Hc.out.size)); clear hb Hc HZ' c1 c2 c3 c4; have Hc := Hd; clear Hd; obtain ⟨hz, ⟨c1, c2, c3, c4⟩, _⟩ := T.out _ Hc.out; have HZ' := Lib.hid hz; have Ha := Lib.hid (Hc.out.alloc Hc.out.size (.cells #[.int .i64 0, .bool true, .int .i64 0, .int .u64 0, .slice none 0 0] 31)); obtain ⟨_, ⟨e1, e2, e3, e4⟩, _⟩ := T.out _ Ha.out; clear hz)))
    obtain ⟨hz9, _, hb9⟩ := T.out _ Ha.out
    have HZ9 := Lib.hid hz9
    have HB9 := Lib.hid hb9
    obtain ⟨hz8, _, _⟩ := T.out _ Ha.out
    obtain ⟨z1, z2, z3, z4, z5, f1, f2, f3, f4, f5⟩ := hz8
    clear hb9 hz9
    have t1 : (w5.alloc (.cells #[.int .i64 0, .bool true, .int .i64 0, .int .u64 0, .slice none 0 0] 31)).cell? ⟨w5.heap.size, 0, none⟩ = some (.int .i64 0) := by
      rw [World.cell?_alloc_new]; rfl
    have t2 : (w5.alloc (.cells #[.int .i64 0, .bool true, .int .i64 0, .int .u64 0, .slice none 0 0] 31)).cell? ⟨w5.heap.size, 1, none⟩ = some (.bool true) := by
      rw [World.cell?_alloc_new]; rfl
    have t3 : (w5.alloc (.cells #[.int .i64 0, .bool true, .int .i64 0, .int .u64 0, .slice none 0 0] 31)).cell? ⟨w5.heap.size, 2, none⟩ = some (.int .i64 0) := by
      rw [World.cell?_alloc_new]; rfl
    have t4 : (w5.alloc (.cells #[.int .i64 0, .bool true, .int .i64 0, .int .u64 0, .slice none 0 0] 31)).cell? ⟨w5.heap.size, 3, none⟩ = some (.int .u64 0) := by
      rw [World.cell?_alloc_new]; rfl
    have t5 : (w5.alloc (.cells #[.int .i64 0, .bool true, .int .i64 0, .int .u64 0, .slice none 0 0] 31)).cell? ⟨w5.heap.size, 4, none⟩ = some (.slice none 0 0) := by
      rw [World.cell?_alloc_new]; rfl
    go_region
    all_goals go_wp2
    trace_state
    all_goals (try simp only [Exit.inBlock, Exit.then])
    all_goals exact do_finD (w5.alloc (.cells #[.int .i64 0, .bool true, .int .i64 0, .int .u64 0, .slice none 0 0] 31)) A none c 0 (w.heap.size + 1) 0 true 0 0 [] (by rw [HG.out]; rfl) rfl rfl HZ9.out (Nat.le_succ _) HB9.out (by rw [HG.out]; exact HL.out.below HB9.out (Nat.le_refl _)) HAn.out (sl_nil _ _)
end Go.Proofs.Ytmlcghbhkpbaeaa
