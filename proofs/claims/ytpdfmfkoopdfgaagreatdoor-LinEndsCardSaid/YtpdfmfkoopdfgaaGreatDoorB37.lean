/- LRefDo. -/
import Derived.Test.YtpdfmfkoopdfgaaGreatDoorB13
import Derived.Test.YtpdfmfkoopdfgaaGreatDoorB17
set_option linter.unusedVariables false
namespace Go.Proofs.YtpdfmfkoopdfgaaGreatDoor.Gr
set_option maxRecDepth 100000
open Go.RowKit Aid

theorem rdo_ret {R : Ending → World → Prop} {a : Act} {W : World} {b : Nat} {cs : List Value} {g : Value} (h4 : a.tmps.getD 4 undef = g) (h5 : a.tmps.getD 5 undef = .pointer (some ⟨b, 0, none⟩)) (hd : a.defers = [])
    (hc : W.rangeAt b 0 cs) (hl : cs.length = 5) (hR : R (.returned (.tuple #[g, .agg cs.toArray])) W) : bodyPost Tryz.prog Tryz.f15 R .ret a W := by
  have hi : (Tryz.prog.info? 41).map (·.size) = some cs.length := by rw [hl]; kernel_rfl
  have hld := run_loadVar_mid (P := Tryz.prog) W b 0 41 cs _ hc Tryz.underlying41 rfl hi
  refine bodyPost_ret (v := .tuple #[g, .agg cs.toArray]) ?_ hd hR
  unfold results
  rw [show Tryz.f15.results = #[.tmp 4, .cell 5 41] from rfl]
  simp only [Array.getD_eq_getD_getElem?] at h4 h5
  simp [asAddr, h4, h5, hld]
theorem rdo_fin {l : List Arc} {o : Op} {w : World} {a : Act} (W : World) (B C : Option Addr) (d f b : Nat) (e : Int) (i : Bool) (n x : Int) (li : List Int) (h4 : a.tmps.getD 4 undef = .slice B (doG l o).length d) (h5 : a.tmps.getD 5 undef = .pointer (some ⟨b, 0, none⟩)) (hd : a.defers = [])
    (hz : ZeroOut W b) (hb : w.heap.size ≤ b) (hbW : Below w.heap.size w W) (harcs : Arcs W B (doG l o)) (ha : doA l o = ⟨e, i, n, x, li⟩) (hs : Sl (W.setCells b 0 [.int .i64 e, .bool i, .int .i64 n, .int .u64 x, .slice C li.length f]) C (li.map (Value.int .i64))) :
    bodyPost Tryz.prog Tryz.f15 (DoPost l o w) .ret a (W.setCells b 0 [.int .i64 e, .bool i, .int .i64 n, .int .u64 x, .slice C li.length f]) := by
  refine rdo_ret h4 h5 hd (World.rangeAt_setCells_same W b 0 [.int .i64 e, .bool i, .int .i64 n, .int .u64 x, .slice C li.length f] hz.there) rfl ?_
  unfold DoPost
  rw [ha]
  exact ⟨B, d, C, f, rfl, arcs_box hz harcs _ rfl, hs, below_set b hb _ 0 hbW⟩
/-- What the calls at the head answer; the world is as it was. -/
structure Heads (A : Option Addr) (c n : Nat) (l : List Arc) (u v : Int) (W : World) : Prop where
  is : ∀ y, Calls Tryz.prog 18 #[.int .i64 y] W fun e w' => e = .returned (.bool (isV y)) ∧ W = w'
  inn : ∀ y, Calls Tryz.prog 19 #[.slice A n c, .int .i64 y] W fun e w' => e = .returned (.bool (inB l y)) ∧ W = w'
  has : Calls Tryz.prog 31 #[.slice A n c, .int .i64 u, .int .i64 v] W fun e w' => e = .returned (.tuple #[.int .u64 (hasW l u v), .bool (hasB l u v)]) ∧ W = w'
theorem heads (A : Option Addr) (c n : Nat) (l : List Arc) (k u v x : Int) (w : World) (hn : n = l.length) (hl : Arcs w A l) : Heads A c n l u v (w2 w k u v x) :=
  have h := hl.below (w2_ok w k u v x).2.2 (Nat.le_refl _)
  ⟨fun y => is_any y _, fun y => refIn_any A c n l y _ hn h, refHas_any A c n l u v _ hn h⟩
theorem near_box {W : World} {base b : Nat} {B : Option Addr} {n d : Nat} {li : List Int} {vs : List Value} (h : W.ownsRow base 3 1 (.slice B n d) n (li.map (Value.int .i64))) (hb : b < base) : Sl (W.setCells b 0 vs) B (li.map (Value.int .i64)) := fun hp => by
  rcases own_form h with ⟨_, _, h0⟩ | ⟨g, cap, hv, hg, _, _, _, hc, _⟩
  · rw [h0] at hp; simp at hp
  · injection hv with hA
    refine ⟨g, 0, hA, fun j u hu => ?_⟩
    rw [World.cell?_setCells_out b vs 0 W _ (fun e _ => by have e2 : g = b := e; omega)]
    exact hc j u hu
theorem cellL' {w W : World} {p : Addr} {v : Value} (h : w.cell? p = some v) (hb : Below w.heap.size w W) : W.cell? p = some v := (hb.cell (p := p) (World.block_lt_of_cell? _ _ h)).trans h
theorem kept_at {l : List Arc} {p : Arc → Bool} {k : Nat} {a : Arc} (h : l[k]? = some a) : kept (l.take (k + 1)) p = kept (l.take k) p ++ (if p a then [] else [a]) := by
  obtain ⟨hk, he⟩ := List.getElem?_eq_some_iff.1 h
  rw [kept_next hk, he]
theorem kept_drop {l : List Arc} {p : Arc → Bool} {k : Nat} {a : Arc} (h : l[k]? = some a) (hp : p a = true) : kept (l.take (k + 1)) p = kept (l.take k) p := by rw [kept_at h, if_pos hp, List.append_nil]
theorem kept_keep {l : List Arc} {p : Arc → Bool} {k : Nat} {a : Arc} (h : l[k]? = some a) (hp : p a = false) : kept (l.take (k + 1)) p = kept (l.take k) p ++ [a] := by rw [kept_at h, if_neg (by rw [hp]; simp)]

set_option maxHeartbeats 2000000 in
theorem rdo_low (A : Option Addr) (c n : Nat) (l : List Arc) (k u v x : Int) (w : World) (hn : n = l.length) (hl : Arcs w A l) (hk : k < 11) : Calls Tryz.prog 15 #[.slice A n c, .agg #[.int .i64 k, .int .i64 u, .int .i64 v, .int .u64 x]] w (DoPost l ⟨k, u, v, x⟩ w) := by
  subst hn
  have HG := Lib.hid (show doG l ⟨k, u, v, x⟩ = l by unfold doG; rw [if_pos (by simp [hk])])
  have HAn := Lib.hid (show doA l ⟨k, u, v, x⟩ = ⟨1, false, 0, 0, []⟩ by unfold doA; rw [if_pos (.inl hk)])
  have HL := Lib.hid hl
  have d1 : decide (k < 11) = true := by simpa using hk
  clear hl
  go_enter Tryz.func15, Tryz.ntmps15
  go_wp2
  (try simp only [Exit.inBlock, Exit.then])
  refine rdo_ret rfl rfl rfl (range_new2 _ _ _ _) rfl ?_
  unfold DoPost
  rw [HG.out, HAn.out]
  exact ⟨A, c, none, 0, rfl, HL.out.below (w2_below _ _ _) (Nat.le_refl _), sl_nil _ _, w2_below _ _ _⟩

set_option maxHeartbeats 2000000 in
theorem rdo_high (A : Option Addr) (c n : Nat) (l : List Arc) (k u v x : Int) (w : World) (hn : n = l.length) (hl : Arcs w A l) (hk : 17 < k) : Calls Tryz.prog 15 #[.slice A n c, .agg #[.int .i64 k, .int .i64 u, .int .i64 v, .int .u64 x]] w (DoPost l ⟨k, u, v, x⟩ w) := by
  subst hn
  have HG := Lib.hid (show doG l ⟨k, u, v, x⟩ = l by unfold doG; rw [if_pos (by simp [hk])])
  have HAn := Lib.hid (show doA l ⟨k, u, v, x⟩ = ⟨1, false, 0, 0, []⟩ by unfold doA; rw [if_pos (.inr hk)])
  have HL := Lib.hid hl
  have d1 : decide (k < 11) = false := by simp; omega
  have d2 : decide (17 < k) = true := by simpa using hk
  clear hl
  go_enter Tryz.func15, Tryz.ntmps15
  go_wp2
  (try simp only [Exit.inBlock, Exit.then])
  refine rdo_ret rfl rfl rfl (range_new2 _ _ _ _) rfl ?_
  unfold DoPost
  rw [HG.out, HAn.out]
  exact ⟨A, c, none, 0, rfl, HL.out.below (w2_below _ _ _) (Nat.le_refl _), sl_nil _ _, w2_below _ _ _⟩

set_option maxHeartbeats 2000000 in
theorem rdo_keyu11 (A : Option Addr) (c n : Nat) (l : List Arc) (u v x : Int) (w : World) (hn : n = l.length) (hl : Arcs w A l) (hq : isV u = false) : Calls Tryz.prog 15 #[.slice A n c, .agg #[.int .i64 11, .int .i64 u, .int .i64 v, .int .u64 x]] w (DoPost l ⟨11, u, v, x⟩ w) := by
  have HH := heads A c n l 11 u v x w hn hl
  subst hn
  have HU := HH.is u
  have HV := Lib.hid (HH.is v)
  have HI := HH.inn u
  have HJ := HH.inn v
  have HS := HH.has
  clear HH
  have HG := Lib.hid (show doG l ⟨11, u, v, x⟩ = l by unfold doG keysB; simp [hq])
  have HAn := Lib.hid (show doA l ⟨11, u, v, x⟩ = ⟨4, false, 0, 0, []⟩ by unfold doA keysB; simp [hq])
  have HL := Lib.hid hl
  rw [hq] at HU
  have HU := Lib.hid HU
  clear hl hq HI HJ HS
  go_enter Tryz.func15, Tryz.ntmps15
  go_wp2_with (first
    | (go_at_call 18; ((with_reducible refine (HU.out).mono ?_); rintro e w' ⟨rfl, rfl⟩))
    | (go_at_call 18; ((with_reducible refine (HV.out).mono ?_); rintro e w' ⟨rfl, rfl⟩)))
  (try simp only [Exit.inBlock, Exit.then])
  refine rdo_ret rfl rfl rfl (range_new2 _ _ _ _) rfl ?_
  unfold DoPost
  rw [HG.out, HAn.out]
  exact ⟨A, c, none, 0, rfl, HL.out.below (w2_below _ _ _) (Nat.le_refl _), sl_nil _ _, w2_below _ _ _⟩

set_option maxHeartbeats 2000000 in
theorem rdo_keyu12 (A : Option Addr) (c n : Nat) (l : List Arc) (u v x : Int) (w : World) (hn : n = l.length) (hl : Arcs w A l) (hq : isV u = false) : Calls Tryz.prog 15 #[.slice A n c, .agg #[.int .i64 12, .int .i64 u, .int .i64 v, .int .u64 x]] w (DoPost l ⟨12, u, v, x⟩ w) := by
  have HH := heads A c n l 12 u v x w hn hl
  subst hn
  have HU := HH.is u
  have HV := Lib.hid (HH.is v)
  have HI := HH.inn u
  have HJ := HH.inn v
  have HS := HH.has
  clear HH
  have HG := Lib.hid (show doG l ⟨12, u, v, x⟩ = l by unfold doG keysB; simp [hq])
  have HAn := Lib.hid (show doA l ⟨12, u, v, x⟩ = ⟨4, false, 0, 0, []⟩ by unfold doA keysB; simp [hq])
  have HL := Lib.hid hl
  rw [hq] at HU
  have HU := Lib.hid HU
  clear hl hq HI HJ HS
  go_enter Tryz.func15, Tryz.ntmps15
  go_wp2_with (first
    | (go_at_call 18; ((with_reducible refine (HU.out).mono ?_); rintro e w' ⟨rfl, rfl⟩))
    | (go_at_call 18; ((with_reducible refine (HV.out).mono ?_); rintro e w' ⟨rfl, rfl⟩)))
  (try simp only [Exit.inBlock, Exit.then])
  refine rdo_ret rfl rfl rfl (range_new2 _ _ _ _) rfl ?_
  unfold DoPost
  rw [HG.out, HAn.out]
  exact ⟨A, c, none, 0, rfl, HL.out.below (w2_below _ _ _) (Nat.le_refl _), sl_nil _ _, w2_below _ _ _⟩

set_option maxHeartbeats 2000000 in
theorem rdo_keyu13 (A : Option Addr) (c n : Nat) (l : List Arc) (u v x : Int) (w : World) (hn : n = l.length) (hl : Arcs w A l) (hq : isV u = false) : Calls Tryz.prog 15 #[.slice A n c, .agg #[.int .i64 13, .int .i64 u, .int .i64 v, .int .u64 x]] w (DoPost l ⟨13, u, v, x⟩ w) := by
  have HH := heads A c n l 13 u v x w hn hl
  subst hn
  have HU := HH.is u
  have HV := Lib.hid (HH.is v)
  have HI := HH.inn u
  have HJ := HH.inn v
  have HS := HH.has
  clear HH
  have HG := Lib.hid (show doG l ⟨13, u, v, x⟩ = l by unfold doG keysB; simp [hq])
  have HAn := Lib.hid (show doA l ⟨13, u, v, x⟩ = ⟨4, false, 0, 0, []⟩ by unfold doA keysB; simp [hq])
  have HL := Lib.hid hl
  rw [hq] at HU
  have HU := Lib.hid HU
  clear hl hq HI HJ HS
  go_enter Tryz.func15, Tryz.ntmps15
  go_wp2_with (first
    | (go_at_call 18; ((with_reducible refine (HU.out).mono ?_); rintro e w' ⟨rfl, rfl⟩))
    | (go_at_call 18; ((with_reducible refine (HV.out).mono ?_); rintro e w' ⟨rfl, rfl⟩)))
  (try simp only [Exit.inBlock, Exit.then])
  refine rdo_ret rfl rfl rfl (range_new2 _ _ _ _) rfl ?_
  unfold DoPost
  rw [HG.out, HAn.out]
  exact ⟨A, c, none, 0, rfl, HL.out.below (w2_below _ _ _) (Nat.le_refl _), sl_nil _ _, w2_below _ _ _⟩

set_option maxHeartbeats 2000000 in
theorem rdo_keyu14 (A : Option Addr) (c n : Nat) (l : List Arc) (u v x : Int) (w : World) (hn : n = l.length) (hl : Arcs w A l) (hq : isV u = false) : Calls Tryz.prog 15 #[.slice A n c, .agg #[.int .i64 14, .int .i64 u, .int .i64 v, .int .u64 x]] w (DoPost l ⟨14, u, v, x⟩ w) := by
  have HH := heads A c n l 14 u v x w hn hl
  subst hn
  have HU := HH.is u
  have HV := Lib.hid (HH.is v)
  have HI := HH.inn u
  have HJ := HH.inn v
  have HS := HH.has
  clear HH
  have HG := Lib.hid (show doG l ⟨14, u, v, x⟩ = l by unfold doG keysB; simp [hq])
  have HAn := Lib.hid (show doA l ⟨14, u, v, x⟩ = ⟨4, false, 0, 0, []⟩ by unfold doA keysB; simp [hq])
  have HL := Lib.hid hl
  rw [hq] at HU
  have HU := Lib.hid HU
  clear hl hq HI HJ HS
  go_enter Tryz.func15, Tryz.ntmps15
  go_wp2_with (first
    | (go_at_call 18; ((with_reducible refine (HU.out).mono ?_); rintro e w' ⟨rfl, rfl⟩))
    | (go_at_call 18; ((with_reducible refine (HV.out).mono ?_); rintro e w' ⟨rfl, rfl⟩)))
  (try simp only [Exit.inBlock, Exit.then])
  refine rdo_ret rfl rfl rfl (range_new2 _ _ _ _) rfl ?_
  unfold DoPost
  rw [HG.out, HAn.out]
  exact ⟨A, c, none, 0, rfl, HL.out.below (w2_below _ _ _) (Nat.le_refl _), sl_nil _ _, w2_below _ _ _⟩

set_option maxHeartbeats 2000000 in
theorem rdo_keyu15 (A : Option Addr) (c n : Nat) (l : List Arc) (u v x : Int) (w : World) (hn : n = l.length) (hl : Arcs w A l) (hq : isV u = false) : Calls Tryz.prog 15 #[.slice A n c, .agg #[.int .i64 15, .int .i64 u, .int .i64 v, .int .u64 x]] w (DoPost l ⟨15, u, v, x⟩ w) := by
  have HH := heads A c n l 15 u v x w hn hl
  subst hn
  have HU := HH.is u
  have HV := Lib.hid (HH.is v)
  have HI := HH.inn u
  have HJ := HH.inn v
  have HS := HH.has
  clear HH
  have HG := Lib.hid (show doG l ⟨15, u, v, x⟩ = l by unfold doG keysB; simp [hq])
  have HAn := Lib.hid (show doA l ⟨15, u, v, x⟩ = ⟨4, false, 0, 0, []⟩ by unfold doA keysB; simp [hq])
  have HL := Lib.hid hl
  rw [hq] at HU
  have HU := Lib.hid HU
  clear hl hq HI HJ HS
  go_enter Tryz.func15, Tryz.ntmps15
  go_wp2_with (first
    | (go_at_call 18; ((with_reducible refine (HU.out).mono ?_); rintro e w' ⟨rfl, rfl⟩))
    | (go_at_call 18; ((with_reducible refine (HV.out).mono ?_); rintro e w' ⟨rfl, rfl⟩)))
  (try simp only [Exit.inBlock, Exit.then])
  refine rdo_ret rfl rfl rfl (range_new2 _ _ _ _) rfl ?_
  unfold DoPost
  rw [HG.out, HAn.out]
  exact ⟨A, c, none, 0, rfl, HL.out.below (w2_below _ _ _) (Nat.le_refl _), sl_nil _ _, w2_below _ _ _⟩

set_option maxHeartbeats 2000000 in
theorem rdo_keyu16 (A : Option Addr) (c n : Nat) (l : List Arc) (u v x : Int) (w : World) (hn : n = l.length) (hl : Arcs w A l) (hq : isV u = false) : Calls Tryz.prog 15 #[.slice A n c, .agg #[.int .i64 16, .int .i64 u, .int .i64 v, .int .u64 x]] w (DoPost l ⟨16, u, v, x⟩ w) := by
  have HH := heads A c n l 16 u v x w hn hl
  subst hn
  have HU := HH.is u
  have HV := Lib.hid (HH.is v)
  have HI := HH.inn u
  have HJ := HH.inn v
  have HS := HH.has
  clear HH
  have HG := Lib.hid (show doG l ⟨16, u, v, x⟩ = l by unfold doG keysB; simp [hq])
  have HAn := Lib.hid (show doA l ⟨16, u, v, x⟩ = ⟨4, false, 0, 0, []⟩ by unfold doA keysB; simp [hq])
  have HL := Lib.hid hl
  rw [hq] at HU
  have HU := Lib.hid HU
  clear hl hq HI HJ HS
  go_enter Tryz.func15, Tryz.ntmps15
  go_wp2_with (first
    | (go_at_call 18; ((with_reducible refine (HU.out).mono ?_); rintro e w' ⟨rfl, rfl⟩))
    | (go_at_call 18; ((with_reducible refine (HV.out).mono ?_); rintro e w' ⟨rfl, rfl⟩)))
  (try simp only [Exit.inBlock, Exit.then])
  refine rdo_ret rfl rfl rfl (range_new2 _ _ _ _) rfl ?_
  unfold DoPost
  rw [HG.out, HAn.out]
  exact ⟨A, c, none, 0, rfl, HL.out.below (w2_below _ _ _) (Nat.le_refl _), sl_nil _ _, w2_below _ _ _⟩

set_option maxHeartbeats 2000000 in
theorem rdo_keyu17 (A : Option Addr) (c n : Nat) (l : List Arc) (u v x : Int) (w : World) (hn : n = l.length) (hl : Arcs w A l) (hq : isV u = false) : Calls Tryz.prog 15 #[.slice A n c, .agg #[.int .i64 17, .int .i64 u, .int .i64 v, .int .u64 x]] w (DoPost l ⟨17, u, v, x⟩ w) := by
  have HH := heads A c n l 17 u v x w hn hl
  subst hn
  have HU := HH.is u
  have HV := Lib.hid (HH.is v)
  have HI := HH.inn u
  have HJ := HH.inn v
  have HS := HH.has
  clear HH
  have HG := Lib.hid (show doG l ⟨17, u, v, x⟩ = l by unfold doG keysB; simp [hq])
  have HAn := Lib.hid (show doA l ⟨17, u, v, x⟩ = ⟨4, false, 0, 0, []⟩ by unfold doA keysB; simp [hq])
  have HL := Lib.hid hl
  rw [hq] at HU
  have HU := Lib.hid HU
  clear hl hq HI HJ HS
  go_enter Tryz.func15, Tryz.ntmps15
  go_wp2_with (first
    | (go_at_call 18; ((with_reducible refine (HU.out).mono ?_); rintro e w' ⟨rfl, rfl⟩))
    | (go_at_call 18; ((with_reducible refine (HV.out).mono ?_); rintro e w' ⟨rfl, rfl⟩)))
  (try simp only [Exit.inBlock, Exit.then])
  refine rdo_ret rfl rfl rfl (range_new2 _ _ _ _) rfl ?_
  unfold DoPost
  rw [HG.out, HAn.out]
  exact ⟨A, c, none, 0, rfl, HL.out.below (w2_below _ _ _) (Nat.le_refl _), sl_nil _ _, w2_below _ _ _⟩

set_option maxHeartbeats 2000000 in
theorem rdo_keyv14 (A : Option Addr) (c n : Nat) (l : List Arc) (u v x : Int) (w : World) (hn : n = l.length) (hl : Arcs w A l) (hu : isV u = true) (hq : isV v = false) : Calls Tryz.prog 15 #[.slice A n c, .agg #[.int .i64 14, .int .i64 u, .int .i64 v, .int .u64 x]] w (DoPost l ⟨14, u, v, x⟩ w) := by
  have HH := heads A c n l 14 u v x w hn hl
  subst hn
  have HU := HH.is u
  have HV := Lib.hid (HH.is v)
  have HI := HH.inn u
  have HJ := HH.inn v
  have HS := HH.has
  clear HH
  have HG := Lib.hid (show doG l ⟨14, u, v, x⟩ = l by unfold doG keysB; simp [hq, hu, edgeKind])
  have HAn := Lib.hid (show doA l ⟨14, u, v, x⟩ = ⟨4, false, 0, 0, []⟩ by unfold doA keysB; simp [hq, hu, edgeKind])
  have HL := Lib.hid hl
  have HW := HV.out
  rw [hu] at HU
  rw [hq] at HW
  have HU := Lib.hid HU
  have HV := Lib.hid HW
  clear hl hq hu HI HJ HS HW
  go_enter Tryz.func15, Tryz.ntmps15
  go_wp2_with (first
    | (go_at_call 18; ((with_reducible refine (HU.out).mono ?_); rintro e w' ⟨rfl, rfl⟩))
    | (go_at_call 18; ((with_reducible refine (HV.out).mono ?_); rintro e w' ⟨rfl, rfl⟩)))
  (try simp only [Exit.inBlock, Exit.then])
  refine rdo_ret rfl rfl rfl (range_new2 _ _ _ _) rfl ?_
  unfold DoPost
  rw [HG.out, HAn.out]
  exact ⟨A, c, none, 0, rfl, HL.out.below (w2_below _ _ _) (Nat.le_refl _), sl_nil _ _, w2_below _ _ _⟩

set_option maxHeartbeats 2000000 in
theorem rdo_keyv15 (A : Option Addr) (c n : Nat) (l : List Arc) (u v x : Int) (w : World) (hn : n = l.length) (hl : Arcs w A l) (hu : isV u = true) (hq : isV v = false) : Calls Tryz.prog 15 #[.slice A n c, .agg #[.int .i64 15, .int .i64 u, .int .i64 v, .int .u64 x]] w (DoPost l ⟨15, u, v, x⟩ w) := by
  have HH := heads A c n l 15 u v x w hn hl
  subst hn
  have HU := HH.is u
  have HV := Lib.hid (HH.is v)
  have HI := HH.inn u
  have HJ := HH.inn v
  have HS := HH.has
  clear HH
  have HG := Lib.hid (show doG l ⟨15, u, v, x⟩ = l by unfold doG keysB; simp [hq, hu, edgeKind])
  have HAn := Lib.hid (show doA l ⟨15, u, v, x⟩ = ⟨4, false, 0, 0, []⟩ by unfold doA keysB; simp [hq, hu, edgeKind])
  have HL := Lib.hid hl
  have HW := HV.out
  rw [hu] at HU
  rw [hq] at HW
  have HU := Lib.hid HU
  have HV := Lib.hid HW
  clear hl hq hu HI HJ HS HW
  go_enter Tryz.func15, Tryz.ntmps15
  go_wp2_with (first
    | (go_at_call 18; ((with_reducible refine (HU.out).mono ?_); rintro e w' ⟨rfl, rfl⟩))
    | (go_at_call 18; ((with_reducible refine (HV.out).mono ?_); rintro e w' ⟨rfl, rfl⟩)))
  (try simp only [Exit.inBlock, Exit.then])
  refine rdo_ret rfl rfl rfl (range_new2 _ _ _ _) rfl ?_
  unfold DoPost
  rw [HG.out, HAn.out]
  exact ⟨A, c, none, 0, rfl, HL.out.below (w2_below _ _ _) (Nat.le_refl _), sl_nil _ _, w2_below _ _ _⟩

set_option maxHeartbeats 2000000 in
theorem rdo_keyv16 (A : Option Addr) (c n : Nat) (l : List Arc) (u v x : Int) (w : World) (hn : n = l.length) (hl : Arcs w A l) (hu : isV u = true) (hq : isV v = false) : Calls Tryz.prog 15 #[.slice A n c, .agg #[.int .i64 16, .int .i64 u, .int .i64 v, .int .u64 x]] w (DoPost l ⟨16, u, v, x⟩ w) := by
  have HH := heads A c n l 16 u v x w hn hl
  subst hn
  have HU := HH.is u
  have HV := Lib.hid (HH.is v)
  have HI := HH.inn u
  have HJ := HH.inn v
  have HS := HH.has
  clear HH
  have HG := Lib.hid (show doG l ⟨16, u, v, x⟩ = l by unfold doG keysB; simp [hq, hu, edgeKind])
  have HAn := Lib.hid (show doA l ⟨16, u, v, x⟩ = ⟨4, false, 0, 0, []⟩ by unfold doA keysB; simp [hq, hu, edgeKind])
  have HL := Lib.hid hl
  have HW := HV.out
  rw [hu] at HU
  rw [hq] at HW
  have HU := Lib.hid HU
  have HV := Lib.hid HW
  clear hl hq hu HI HJ HS HW
  go_enter Tryz.func15, Tryz.ntmps15
  go_wp2_with (first
    | (go_at_call 18; ((with_reducible refine (HU.out).mono ?_); rintro e w' ⟨rfl, rfl⟩))
    | (go_at_call 18; ((with_reducible refine (HV.out).mono ?_); rintro e w' ⟨rfl, rfl⟩)))
  (try simp only [Exit.inBlock, Exit.then])
  refine rdo_ret rfl rfl rfl (range_new2 _ _ _ _) rfl ?_
  unfold DoPost
  rw [HG.out, HAn.out]
  exact ⟨A, c, none, 0, rfl, HL.out.below (w2_below _ _ _) (Nat.le_refl _), sl_nil _ _, w2_below _ _ _⟩

set_option maxHeartbeats 2000000 in
theorem rdo_11y (A : Option Addr) (c n : Nat) (l : List Arc) (u v x : Int) (w : World) (hn : n = l.length) (hl : Arcs w A l) (hu : isV u = true) (hi : inB l u = true) : Calls Tryz.prog 15 #[.slice A n c, .agg #[.int .i64 11, .int .i64 u, .int .i64 v, .int .u64 x]] w (DoPost l ⟨11, u, v, x⟩ w) := by
  have HH := heads A c n l 11 u v x w hn hl
  subst hn
  have HU := HH.is u
  have HV := Lib.hid (HH.is v)
  have HI := HH.inn u
  have HJ := HH.inn v
  have HS := HH.has
  clear HH
  have hq : keysB ⟨11, u, v, x⟩ = true := by unfold keysB; simp [hu, edgeKind]
  have HG := Lib.hid (show doG l ⟨11, u, v, x⟩ = l by unfold doG; rw [if_neg (by simp [hq]), if_pos rfl]; exact withL_hit hi)
  have HAn := Lib.hid (show doA l ⟨11, u, v, x⟩ = ⟨0, false, 0, 0, []⟩ by unfold doA; simp [hq, hi])
  have HL := Lib.hid hl
  rw [hu] at HU
  have HU := Lib.hid HU
  rw [hi] at HI
  have HI := Lib.hid HI
  have HJ := Lib.hid HJ
  have HS := Lib.hid HS
  clear hl hq hu hi
  go_enter Tryz.func15, Tryz.ntmps15
  go_wp2_with (first
    | (go_at_call 18; ((with_reducible refine (HU.out).mono ?_); rintro e w' ⟨rfl, rfl⟩))
    | (go_at_call 18; ((with_reducible refine (HV.out).mono ?_); rintro e w' ⟨rfl, rfl⟩))
    | (go_at_call 19; ((with_reducible refine (HI.out).mono ?_); rintro e w' ⟨rfl, rfl⟩))
    | (go_at_call 19; ((with_reducible refine (HJ.out).mono ?_); rintro e w' ⟨rfl, rfl⟩))
    | (go_at_call 31; ((with_reducible refine (HS.out).mono ?_); rintro e w' ⟨rfl, rfl⟩)))
  (try simp only [Exit.inBlock, Exit.then])
  refine rdo_ret rfl rfl rfl (range_new2 _ _ _ _) rfl ?_
  unfold DoPost
  rw [HG.out, HAn.out]
  exact ⟨A, c, none, 0, rfl, HL.out.below (w2_below _ _ _) (Nat.le_refl _), sl_nil _ _, w2_below _ _ _⟩

set_option maxHeartbeats 2000000 in
theorem rdo_13 (A : Option Addr) (c n : Nat) (l : List Arc) (u v x : Int) (w : World) (hn : n = l.length) (hl : Arcs w A l) (hu : isV u = true) : Calls Tryz.prog 15 #[.slice A n c, .agg #[.int .i64 13, .int .i64 u, .int .i64 v, .int .u64 x]] w (DoPost l ⟨13, u, v, x⟩ w) := by
  have HH := heads A c n l 13 u v x w hn hl
  subst hn
  have HU := HH.is u
  have HV := Lib.hid (HH.is v)
  have HI := HH.inn u
  have HJ := HH.inn v
  have HS := HH.has
  clear HH
  have hq : keysB ⟨13, u, v, x⟩ = true := by unfold keysB; simp [hu, edgeKind]
  have HG := Lib.hid (show doG l ⟨13, u, v, x⟩ = l by exact doG_plain (by simp) (by simp) hq (.inl rfl))
  have HAn := Lib.hid (show doA l ⟨13, u, v, x⟩ = ⟨0, inB l u, 0, 0, []⟩ by unfold doA; simp [hq])
  have HL := Lib.hid hl
  rw [hu] at HU
  have HU := Lib.hid HU
  have HI := Lib.hid HI
  have HJ := Lib.hid HJ
  have HS := Lib.hid HS
  clear hl hq hu
  go_enter Tryz.func15, Tryz.ntmps15
  go_wp2_with (first
    | (go_at_call 18; ((with_reducible refine (HU.out).mono ?_); rintro e w' ⟨rfl, rfl⟩))
    | (go_at_call 18; ((with_reducible refine (HV.out).mono ?_); rintro e w' ⟨rfl, rfl⟩))
    | (go_at_call 19; ((with_reducible refine (HI.out).mono ?_); rintro e w' ⟨rfl, rfl⟩))
    | (go_at_call 19; ((with_reducible refine (HJ.out).mono ?_); rintro e w' ⟨rfl, rfl⟩))
    | (go_at_call 31; ((with_reducible refine (HS.out).mono ?_); rintro e w' ⟨rfl, rfl⟩)))
  (try simp only [Exit.inBlock, Exit.then])
  refine rdo_ret rfl rfl rfl (range_new2 _ _ _ _) rfl ?_
  unfold DoPost
  rw [HG.out, HAn.out]
  exact ⟨A, c, none, 0, rfl, HL.out.below (w2_below _ _ _) (Nat.le_refl _), sl_nil _ _, w2_below _ _ _⟩

set_option maxHeartbeats 2000000 in
theorem rdo_16 (A : Option Addr) (c n : Nat) (l : List Arc) (u v x : Int) (w : World) (hn : n = l.length) (hl : Arcs w A l) (hu : isV u = true) (hv : isV v = true) : Calls Tryz.prog 15 #[.slice A n c, .agg #[.int .i64 16, .int .i64 u, .int .i64 v, .int .u64 x]] w (DoPost l ⟨16, u, v, x⟩ w) := by
  have HH := heads A c n l 16 u v x w hn hl
  subst hn
  have HU := HH.is u
  have HV := Lib.hid (HH.is v)
  have HI := HH.inn u
  have HJ := HH.inn v
  have HS := HH.has
  clear HH
  have hq : keysB ⟨16, u, v, x⟩ = true := by unfold keysB; simp [hu, hv, edgeKind]
  have HG := Lib.hid (show doG l ⟨16, u, v, x⟩ = l by exact doG_plain (by simp) (by simp) hq (.inr (.inl rfl)))
  have HAn := Lib.hid (show doA l ⟨16, u, v, x⟩ = ⟨0, hasB l u v, 0, hasW l u v, []⟩ by unfold doA; simp [hq])
  have HL := Lib.hid hl
  rw [hu] at HU
  have HU := Lib.hid HU
  have HV0 := HV.out
  rw [hv] at HV0
  have HV := Lib.hid HV0
  clear HV0
  have HI := Lib.hid HI
  have HJ := Lib.hid HJ
  have HS := Lib.hid HS
  clear hl hq hu hv
  go_enter Tryz.func15, Tryz.ntmps15
  go_wp2_with (first
    | (go_at_call 18; ((with_reducible refine (HU.out).mono ?_); rintro e w' ⟨rfl, rfl⟩))
    | (go_at_call 18; ((with_reducible refine (HV.out).mono ?_); rintro e w' ⟨rfl, rfl⟩))
    | (go_at_call 19; ((with_reducible refine (HI.out).mono ?_); rintro e w' ⟨rfl, rfl⟩))
    | (go_at_call 19; ((with_reducible refine (HJ.out).mono ?_); rintro e w' ⟨rfl, rfl⟩))
    | (go_at_call 31; ((with_reducible refine (HS.out).mono ?_); rintro e w' ⟨rfl, rfl⟩)))
  (try simp only [Exit.inBlock, Exit.then])
  refine rdo_ret rfl rfl rfl (range_new2 _ _ _ _) rfl ?_
  unfold DoPost
  rw [HG.out, HAn.out]
  exact ⟨A, c, none, 0, rfl, HL.out.below (w2_below _ _ _) (Nat.le_refl _), sl_nil _ _, w2_below _ _ _⟩

set_option maxHeartbeats 2000000 in
theorem rdo_14nu (A : Option Addr) (c n : Nat) (l : List Arc) (u v x : Int) (w : World) (hn : n = l.length) (hl : Arcs w A l) (hu : isV u = true) (hv : isV v = true) (hi : inB l u = false) : Calls Tryz.prog 15 #[.slice A n c, .agg #[.int .i64 14, .int .i64 u, .int .i64 v, .int .u64 x]] w (DoPost l ⟨14, u, v, x⟩ w) := by
  have HH := heads A c n l 14 u v x w hn hl
  subst hn
  have HU := HH.is u
  have HV := Lib.hid (HH.is v)
  have HI := HH.inn u
  have HJ := HH.inn v
  have HS := HH.has
  clear HH
  have hq : keysB ⟨14, u, v, x⟩ = true := by unfold keysB; simp [hu, hv, edgeKind]
  have HG := Lib.hid (show doG l ⟨14, u, v, x⟩ = l by unfold doG both; simp [hq, hi])
  have HAn := Lib.hid (show doA l ⟨14, u, v, x⟩ = ⟨5, false, 0, 0, []⟩ by unfold doA both; simp [hq, hi])
  have HL := Lib.hid hl
  rw [hu] at HU
  have HU := Lib.hid HU
  have HV0 := HV.out
  rw [hv] at HV0
  have HV := Lib.hid HV0
  clear HV0
  rw [hi] at HI
  have HI := Lib.hid HI
  have HJ := Lib.hid HJ
  have HS := Lib.hid HS
  clear hl hq hu hv hi
  go_enter Tryz.func15, Tryz.ntmps15
  go_wp2_with (first
    | (go_at_call 18; ((with_reducible refine (HU.out).mono ?_); rintro e w' ⟨rfl, rfl⟩))
    | (go_at_call 18; ((with_reducible refine (HV.out).mono ?_); rintro e w' ⟨rfl, rfl⟩))
    | (go_at_call 19; ((with_reducible refine (HI.out).mono ?_); rintro e w' ⟨rfl, rfl⟩))
    | (go_at_call 19; ((with_reducible refine (HJ.out).mono ?_); rintro e w' ⟨rfl, rfl⟩))
    | (go_at_call 31; ((with_reducible refine (HS.out).mono ?_); rintro e w' ⟨rfl, rfl⟩)))
  (try simp only [Exit.inBlock, Exit.then])
  refine rdo_ret rfl rfl rfl (range_new2 _ _ _ _) rfl ?_
  unfold DoPost
  rw [HG.out, HAn.out]
  exact ⟨A, c, none, 0, rfl, HL.out.below (w2_below _ _ _) (Nat.le_refl _), sl_nil _ _, w2_below _ _ _⟩

set_option maxHeartbeats 2000000 in
theorem rdo_14nv (A : Option Addr) (c n : Nat) (l : List Arc) (u v x : Int) (w : World) (hn : n = l.length) (hl : Arcs w A l) (hu : isV u = true) (hv : isV v = true) (hi : inB l u = true) (hj : inB l v = false) : Calls Tryz.prog 15 #[.slice A n c, .agg #[.int .i64 14, .int .i64 u, .int .i64 v, .int .u64 x]] w (DoPost l ⟨14, u, v, x⟩ w) := by
  have HH := heads A c n l 14 u v x w hn hl
  subst hn
  have HU := HH.is u
  have HV := Lib.hid (HH.is v)
  have HI := HH.inn u
  have HJ := HH.inn v
  have HS := HH.has
  clear HH
  have hq : keysB ⟨14, u, v, x⟩ = true := by unfold keysB; simp [hu, hv, edgeKind]
  have HG := Lib.hid (show doG l ⟨14, u, v, x⟩ = l by unfold doG both; simp [hq, hi, hj])
  have HAn := Lib.hid (show doA l ⟨14, u, v, x⟩ = ⟨5, false, 0, 0, []⟩ by unfold doA both; simp [hq, hi, hj])
  have HL := Lib.hid hl
  rw [hu] at HU
  have HU := Lib.hid HU
  have HV0 := HV.out
  rw [hv] at HV0
  have HV := Lib.hid HV0
  clear HV0
  rw [hi] at HI
  rw [hj] at HJ
  have HI := Lib.hid HI
  have HJ := Lib.hid HJ
  have HS := Lib.hid HS
  clear hl hq hu hv hi hj
  go_enter Tryz.func15, Tryz.ntmps15
  go_wp2_with (first
    | (go_at_call 18; ((with_reducible refine (HU.out).mono ?_); rintro e w' ⟨rfl, rfl⟩))
    | (go_at_call 18; ((with_reducible refine (HV.out).mono ?_); rintro e w' ⟨rfl, rfl⟩))
    | (go_at_call 19; ((with_reducible refine (HI.out).mono ?_); rintro e w' ⟨rfl, rfl⟩))
    | (go_at_call 19; ((with_reducible refine (HJ.out).mono ?_); rintro e w' ⟨rfl, rfl⟩))
    | (go_at_call 31; ((with_reducible refine (HS.out).mono ?_); rintro e w' ⟨rfl, rfl⟩)))
  (try simp only [Exit.inBlock, Exit.then])
  refine rdo_ret rfl rfl rfl (range_new2 _ _ _ _) rfl ?_
  unfold DoPost
  rw [HG.out, HAn.out]
  exact ⟨A, c, none, 0, rfl, HL.out.below (w2_below _ _ _) (Nat.le_refl _), sl_nil _ _, w2_below _ _ _⟩

set_option maxHeartbeats 2000000 in
theorem rdo_15nu (A : Option Addr) (c n : Nat) (l : List Arc) (u v x : Int) (w : World) (hn : n = l.length) (hl : Arcs w A l) (hu : isV u = true) (hv : isV v = true) (hi : inB l u = false) : Calls Tryz.prog 15 #[.slice A n c, .agg #[.int .i64 15, .int .i64 u, .int .i64 v, .int .u64 x]] w (DoPost l ⟨15, u, v, x⟩ w) := by
  have HH := heads A c n l 15 u v x w hn hl
  subst hn
  have HU := HH.is u
  have HV := Lib.hid (HH.is v)
  have HI := HH.inn u
  have HJ := HH.inn v
  have HS := HH.has
  clear HH
  have hq : keysB ⟨15, u, v, x⟩ = true := by unfold keysB; simp [hu, hv, edgeKind]
  have HG := Lib.hid (show doG l ⟨15, u, v, x⟩ = l by unfold doG both; simp [hq, hi])
  have HAn := Lib.hid (show doA l ⟨15, u, v, x⟩ = ⟨5, false, 0, 0, []⟩ by unfold doA both; simp [hq, hi])
  have HL := Lib.hid hl
  rw [hu] at HU
  have HU := Lib.hid HU
  have HV0 := HV.out
  rw [hv] at HV0
  have HV := Lib.hid HV0
  clear HV0
  rw [hi] at HI
  have HI := Lib.hid HI
  have HJ := Lib.hid HJ
  have HS := Lib.hid HS
  clear hl hq hu hv hi
  go_enter Tryz.func15, Tryz.ntmps15
  go_wp2_with (first
    | (go_at_call 18; ((with_reducible refine (HU.out).mono ?_); rintro e w' ⟨rfl, rfl⟩))
    | (go_at_call 18; ((with_reducible refine (HV.out).mono ?_); rintro e w' ⟨rfl, rfl⟩))
    | (go_at_call 19; ((with_reducible refine (HI.out).mono ?_); rintro e w' ⟨rfl, rfl⟩))
    | (go_at_call 19; ((with_reducible refine (HJ.out).mono ?_); rintro e w' ⟨rfl, rfl⟩))
    | (go_at_call 31; ((with_reducible refine (HS.out).mono ?_); rintro e w' ⟨rfl, rfl⟩)))
  (try simp only [Exit.inBlock, Exit.then])
  refine rdo_ret rfl rfl rfl (range_new2 _ _ _ _) rfl ?_
  unfold DoPost
  rw [HG.out, HAn.out]
  exact ⟨A, c, none, 0, rfl, HL.out.below (w2_below _ _ _) (Nat.le_refl _), sl_nil _ _, w2_below _ _ _⟩

set_option maxHeartbeats 2000000 in
theorem rdo_15nv (A : Option Addr) (c n : Nat) (l : List Arc) (u v x : Int) (w : World) (hn : n = l.length) (hl : Arcs w A l) (hu : isV u = true) (hv : isV v = true) (hi : inB l u = true) (hj : inB l v = false) : Calls Tryz.prog 15 #[.slice A n c, .agg #[.int .i64 15, .int .i64 u, .int .i64 v, .int .u64 x]] w (DoPost l ⟨15, u, v, x⟩ w) := by
  have HH := heads A c n l 15 u v x w hn hl
  subst hn
  have HU := HH.is u
  have HV := Lib.hid (HH.is v)
  have HI := HH.inn u
  have HJ := HH.inn v
  have HS := HH.has
  clear HH
  have hq : keysB ⟨15, u, v, x⟩ = true := by unfold keysB; simp [hu, hv, edgeKind]
  have HG := Lib.hid (show doG l ⟨15, u, v, x⟩ = l by unfold doG both; simp [hq, hi, hj])
  have HAn := Lib.hid (show doA l ⟨15, u, v, x⟩ = ⟨5, false, 0, 0, []⟩ by unfold doA both; simp [hq, hi, hj])
  have HL := Lib.hid hl
  rw [hu] at HU
  have HU := Lib.hid HU
  have HV0 := HV.out
  rw [hv] at HV0
  have HV := Lib.hid HV0
  clear HV0
  rw [hi] at HI
  rw [hj] at HJ
  have HI := Lib.hid HI
  have HJ := Lib.hid HJ
  have HS := Lib.hid HS
  clear hl hq hu hv hi hj
  go_enter Tryz.func15, Tryz.ntmps15
  go_wp2_with (first
    | (go_at_call 18; ((with_reducible refine (HU.out).mono ?_); rintro e w' ⟨rfl, rfl⟩))
    | (go_at_call 18; ((with_reducible refine (HV.out).mono ?_); rintro e w' ⟨rfl, rfl⟩))
    | (go_at_call 19; ((with_reducible refine (HI.out).mono ?_); rintro e w' ⟨rfl, rfl⟩))
    | (go_at_call 19; ((with_reducible refine (HJ.out).mono ?_); rintro e w' ⟨rfl, rfl⟩))
    | (go_at_call 31; ((with_reducible refine (HS.out).mono ?_); rintro e w' ⟨rfl, rfl⟩)))
  (try simp only [Exit.inBlock, Exit.then])
  refine rdo_ret rfl rfl rfl (range_new2 _ _ _ _) rfl ?_
  unfold DoPost
  rw [HG.out, HAn.out]
  exact ⟨A, c, none, 0, rfl, HL.out.below (w2_below _ _ _) (Nat.le_refl _), sl_nil _ _, w2_below _ _ _⟩

set_option maxHeartbeats 2000000 in
theorem rdo_14y (A : Option Addr) (c n : Nat) (l : List Arc) (u v x : Int) (w : World) (hn : n = l.length) (hl : Arcs w A l) (hu : isV u = true) (hv : isV v = true) (hi : inB l u = true) (hj : inB l v = true) (hb : hasB l u v = true) : Calls Tryz.prog 15 #[.slice A n c, .agg #[.int .i64 14, .int .i64 u, .int .i64 v, .int .u64 x]] w (DoPost l ⟨14, u, v, x⟩ w) := by
  have HH := heads A c n l 14 u v x w hn hl
  subst hn
  have HU := HH.is u
  have HV := Lib.hid (HH.is v)
  have HI := HH.inn u
  have HJ := HH.inn v
  have HS := HH.has
  clear HH
  have hq : keysB ⟨14, u, v, x⟩ = true := by unfold keysB; simp [hu, hv, edgeKind]
  have HG := Lib.hid (show doG l ⟨14, u, v, x⟩ = l by unfold doG both; simp [hq, hi, hj]; exact withL_hit hb)
  have HAn := Lib.hid (show doA l ⟨14, u, v, x⟩ = ⟨0, false, 0, 0, []⟩ by unfold doA both; simp [hq, hi, hj])
  have HL := Lib.hid hl
  rw [hu] at HU
  have HU := Lib.hid HU
  have HV0 := HV.out
  rw [hv] at HV0
  have HV := Lib.hid HV0
  clear HV0
  rw [hi] at HI
  rw [hj] at HJ
  rw [hb] at HS
  have HI := Lib.hid HI
  have HJ := Lib.hid HJ
  have HS := Lib.hid HS
  clear hl hq hu hv hi hj hb
  go_enter Tryz.func15, Tryz.ntmps15
  go_wp2_with (first
    | (go_at_call 18; ((with_reducible refine (HU.out).mono ?_); rintro e w' ⟨rfl, rfl⟩))
    | (go_at_call 18; ((with_reducible refine (HV.out).mono ?_); rintro e w' ⟨rfl, rfl⟩))
    | (go_at_call 19; ((with_reducible refine (HI.out).mono ?_); rintro e w' ⟨rfl, rfl⟩))
    | (go_at_call 19; ((with_reducible refine (HJ.out).mono ?_); rintro e w' ⟨rfl, rfl⟩))
    | (go_at_call 31; ((with_reducible refine (HS.out).mono ?_); rintro e w' ⟨rfl, rfl⟩)))
  (try simp only [Exit.inBlock, Exit.then])
  refine rdo_ret rfl rfl rfl (range_new2 _ _ _ _) rfl ?_
  unfold DoPost
  rw [HG.out, HAn.out]
  exact ⟨A, c, none, 0, rfl, HL.out.below (w2_below _ _ _) (Nat.le_refl _), sl_nil _ _, w2_below _ _ _⟩

set_option maxHeartbeats 2000000 in
theorem rdo_11n (A : Option Addr) (c n : Nat) (l : List Arc) (u v x : Int) (w : World) (hn : n = l.length) (hl : Arcs w A l) (hs : Rises l) (h40 : l.length ≤ 999) (hu : isV u = true) (hi : inB l u = false) : Calls Tryz.prog 15 #[.slice A n c, .agg #[.int .i64 11, .int .i64 u, .int .i64 v, .int .u64 x]] w (DoPost l ⟨11, u, v, x⟩ w) := by
  have HH := heads A c n l 11 u v x w hn hl
  subst hn
  have HU := HH.is u
  have HV := Lib.hid (HH.is v)
  have HI := HH.inn u
  have HJ := HH.inn v
  have HS := HH.has
  clear HH
  have hq : keysB ⟨11, u, v, x⟩ = true := by unfold keysB; simp [hu, edgeKind]
  have HG := Lib.hid (show doG l ⟨11, u, v, x⟩ = withL l ⟨u, -1, 0⟩ by unfold doG; rw [if_neg (by simp [hq]), if_pos rfl])
  have HAn := Lib.hid (show doA l ⟨11, u, v, x⟩ = ⟨0, true, 0, 0, []⟩ by unfold doA; simp [hq, hi])
  have HL := Lib.hid hl
  have T := Lib.hid (@after3 w 11 u v x)
  have HWi := Lib.hid (refWith_any A c l.length l ⟨u, -1, 0⟩ (w2 w 11 u v x) rfl (hl.below (w2_ok w 11 u v x).2.2 (Nat.le_refl _)) hs h40 (fine_v hu) hi)
  unfold Arc.val at HWi
  simp only at HWi
  rw [hu] at HU
  have HU := Lib.hid HU
  rw [hi] at HI
  have HI := Lib.hid HI
  have HJ := Lib.hid HJ
  have HS := Lib.hid HS
  clear hl hq hs hu hi
  go_enter Tryz.func15, Tryz.ntmps15
  go_wp2_with (first
    | (go_at_call 18; ((with_reducible refine (HU.out).mono ?_); rintro e w' ⟨rfl, rfl⟩))
    | (go_at_call 18; ((with_reducible refine (HV.out).mono ?_); rintro e w' ⟨rfl, rfl⟩))
    | (go_at_call 19; ((with_reducible refine (HI.out).mono ?_); rintro e w' ⟨rfl, rfl⟩))
    | (go_at_call 19; ((with_reducible refine (HJ.out).mono ?_); rintro e w' ⟨rfl, rfl⟩))
    | (go_at_call 31; ((with_reducible refine (HS.out).mono ?_); rintro e w' ⟨rfl, rfl⟩))
    | (go_at_call 32; ((with_reducible refine (HWi.out).mono ?_); rintro e w4 ⟨B, d, rfl, ha4, hb4⟩; have HA4 := Lib.hid ha4; obtain ⟨hz, _, hbb⟩ := T.out _ hb4; have HZ' := Lib.hid hz; have HBk := Lib.hid hbb; obtain ⟨z1, z2, z3, z4, z5, f1, f2, f3, f4, f5⟩ := hz; clear ha4 hb4 hbb)))
  (try simp only [Exit.inBlock, Exit.then])
  exact rdo_fin w4 B none d 0 (w.heap.size + 1) 0 true 0 0 [] (by rw [HG.out]; rfl) rfl rfl HZ'.out (Nat.le_succ _) HBk.out (by rw [HG.out]; exact HA4.out) HAn.out (sl_nil _ _)

set_option maxHeartbeats 2000000 in
theorem rdo_14n (A : Option Addr) (c n : Nat) (l : List Arc) (u v x : Int) (w : World) (hn : n = l.length) (hl : Arcs w A l) (hs : Rises l) (h40 : l.length ≤ 999) (hu : isV u = true) (hv : isV v = true) (hx0 : 0 ≤ x) (hx1 : x < 18446744073709551616) (hi : inB l u = true) (hj : inB l v = true) (hb : hasB l u v = false) : Calls Tryz.prog 15 #[.slice A n c, .agg #[.int .i64 14, .int .i64 u, .int .i64 v, .int .u64 x]] w (DoPost l ⟨14, u, v, x⟩ w) := by
  have HH := heads A c n l 14 u v x w hn hl
  subst hn
  have HU := HH.is u
  have HV := Lib.hid (HH.is v)
  have HI := HH.inn u
  have HJ := HH.inn v
  have HS := HH.has
  clear HH
  have hq : keysB ⟨14, u, v, x⟩ = true := by unfold keysB; simp [hu, hv, edgeKind]
  have HG := Lib.hid (show doG l ⟨14, u, v, x⟩ = withL l ⟨u, v, x⟩ by unfold doG both; simp [hq, hi, hj])
  have HAn := Lib.hid (show doA l ⟨14, u, v, x⟩ = ⟨0, false, 0, 0, []⟩ by unfold doA both; simp [hq, hi, hj])
  have HL := Lib.hid hl
  have T := Lib.hid (@after3 w 14 u v x)
  have HWi := Lib.hid (refWith_any A c l.length l ⟨u, v, x⟩ (w2 w 14 u v x) rfl (hl.below (w2_ok w 14 u v x).2.2 (Nat.le_refl _)) hs h40 (fine_e hu hv hx0 hx1) hb)
  unfold Arc.val at HWi
  simp only at HWi
  rw [hu] at HU
  have HU := Lib.hid HU
  have HV0 := HV.out
  rw [hv] at HV0
  have HV := Lib.hid HV0
  clear HV0
  rw [hi] at HI
  rw [hj] at HJ
  rw [hb] at HS
  have HI := Lib.hid HI
  have HJ := Lib.hid HJ
  have HS := Lib.hid HS
  clear hl hq hs hu hv hi hj hb
  go_enter Tryz.func15, Tryz.ntmps15
  go_wp2_with (first
    | (go_at_call 18; ((with_reducible refine (HU.out).mono ?_); rintro e w' ⟨rfl, rfl⟩))
    | (go_at_call 18; ((with_reducible refine (HV.out).mono ?_); rintro e w' ⟨rfl, rfl⟩))
    | (go_at_call 19; ((with_reducible refine (HI.out).mono ?_); rintro e w' ⟨rfl, rfl⟩))
    | (go_at_call 19; ((with_reducible refine (HJ.out).mono ?_); rintro e w' ⟨rfl, rfl⟩))
    | (go_at_call 31; ((with_reducible refine (HS.out).mono ?_); rintro e w' ⟨rfl, rfl⟩))
    | (go_at_call 32; ((with_reducible refine (HWi.out).mono ?_); rintro e w4 ⟨B, d, rfl, ha4, hb4⟩; have HA4 := Lib.hid ha4; obtain ⟨hz, _, hbb⟩ := T.out _ hb4; have HZ' := Lib.hid hz; have HBk := Lib.hid hbb; obtain ⟨z1, z2, z3, z4, z5, f1, f2, f3, f4, f5⟩ := hz; clear ha4 hb4 hbb)))
  (try simp only [Exit.inBlock, Exit.then])
  exact rdo_fin w4 B none d 0 (w.heap.size + 1) 0 false 0 0 [] (by rw [HG.out]; rfl) rfl rfl HZ'.out (Nat.le_succ _) HBk.out (by rw [HG.out]; exact HA4.out) HAn.out (sl_nil _ _)

set_option maxHeartbeats 2000000 in
theorem rdo_17 (A : Option Addr) (c n : Nat) (l : List Arc) (u v x : Int) (w : World) (hn : n = l.length) (hl : Arcs w A l) (h40 : l.length ≤ 999) (hu : isV u = true) : Calls Tryz.prog 15 #[.slice A n c, .agg #[.int .i64 17, .int .i64 u, .int .i64 v, .int .u64 x]] w (DoPost l ⟨17, u, v, x⟩ w) := by
  have HH := heads A c n l 17 u v x w hn hl
  subst hn
  have HU := HH.is u
  have HV := Lib.hid (HH.is v)
  have HI := HH.inn u
  have HJ := HH.inn v
  have HS := HH.has
  clear HH
  have hq : keysB ⟨17, u, v, x⟩ = true := by unfold keysB; simp [hu, edgeKind]
  have HG := Lib.hid (show doG l ⟨17, u, v, x⟩ = l by exact doG_plain (by simp) (by simp) hq (.inr (.inr rfl)))
  have HAn := Lib.hid (show doA l ⟨17, u, v, x⟩ = ⟨0, inB l u, 0, 0, near l u⟩ by unfold doA; simp [hq])
  have HL := Lib.hid hl
  have T := Lib.hid (@after3 w 17 u v x)
  have HN := Lib.hid (refNear_any A c l.length l u (w2 w 17 u v x) rfl (hl.below (w2_ok w 17 u v x).2.2 (Nat.le_refl _)) (by omega))
  rw [hu] at HU
  have HU := Lib.hid HU
  have HI := Lib.hid HI
  have HJ := Lib.hid HJ
  have HS := Lib.hid HS
  clear hl hq hu
  go_enter Tryz.func15, Tryz.ntmps15
  go_wp2_with (first
    | (go_at_call 18; ((with_reducible refine (HU.out).mono ?_); rintro e w' ⟨rfl, rfl⟩))
    | (go_at_call 18; ((with_reducible refine (HV.out).mono ?_); rintro e w' ⟨rfl, rfl⟩))
    | (go_at_call 19; ((with_reducible refine (HI.out).mono ?_); rintro e w' ⟨rfl, rfl⟩))
    | (go_at_call 19; ((with_reducible refine (HJ.out).mono ?_); rintro e w' ⟨rfl, rfl⟩))
    | (go_at_call 31; ((with_reducible refine (HS.out).mono ?_); rintro e w' ⟨rfl, rfl⟩))
    | (go_at_call 33; ((with_reducible refine (HN.out).mono ?_); rintro e w4 ⟨B, d, rfl, ho4, hb4⟩; have HO4 := Lib.hid ho4; obtain ⟨hz, _, hbb⟩ := T.out _ hb4; have HZ' := Lib.hid hz; have HBk := Lib.hid hbb; obtain ⟨z1, z2, z3, z4, z5, f1, f2, f3, f4, f5⟩ := hz; clear ho4 hb4 hbb)))
  (try simp only [Exit.inBlock, Exit.then])
  exact rdo_fin w4 A B c d (w.heap.size + 1) 0 _ 0 0 (near l u) (by rw [HG.out]; rfl) rfl rfl HZ'.out (Nat.le_succ _) HBk.out (by rw [HG.out]; exact HL.out.below HBk.out (Nat.le_refl _)) HAn.out (near_box HO4.out (by rw [World.size_alloc, World.size_alloc]; omega))

set_option maxHeartbeats 2000000 in
theorem rdo_12 (A : Option Addr) (c n : Nat) (l : List Arc) (u v x : Int) (w : World) (hn : n = l.length) (hl : Arcs w A l) (h40 : l.length ≤ 999) (hu : isV u = true) : Calls Tryz.prog 15 #[.slice A n c, .agg #[.int .i64 12, .int .i64 u, .int .i64 v, .int .u64 x]] w (DoPost l ⟨12, u, v, x⟩ w) := by
  have HH := heads A c n l 12 u v x w hn hl
  subst hn
  have HU := HH.is u
  have HV := Lib.hid (HH.is v)
  have HI := HH.inn u
  have HJ := HH.inn v
  have HS := HH.has
  clear HH
  have hq : keysB ⟨12, u, v, x⟩ = true := by unfold keysB; simp [hu, edgeKind]
  have HG := Lib.hid (show doG l ⟨12, u, v, x⟩ = kept l (ends ⟨12, u, v, x⟩) by unfold doG; rw [if_neg (by simp [hq]), if_neg (by simp), if_pos rfl])
  have HAn := Lib.hid (show doA l ⟨12, u, v, x⟩ = ⟨0, inB l u, 0, 0, []⟩ by unfold doA; simp [hq])
  have HL := Lib.hid hl
  have T := Lib.hid (@after3 w 12 u v x)
  have FN := Lib.hid (fun a (h : a ∈ kept l (ends ⟨12, u, v, x⟩)) => hl.2.1 a (kept_mem h))
  rw [hu] at HU
  have HU := Lib.hid HU
  have HI := Lib.hid HI
  have HJ := Lib.hid HJ
  have HS := Lib.hid HS
  clear hl hq hu
  go_enter Tryz.func15, Tryz.ntmps15
  go_wp2_with (first
    | (go_at_call 18; ((with_reducible refine (HU.out).mono ?_); rintro e w' ⟨rfl, rfl⟩))
    | (go_at_call 18; ((with_reducible refine (HV.out).mono ?_); rintro e w' ⟨rfl, rfl⟩))
    | (go_at_call 19; ((with_reducible refine (HI.out).mono ?_); rintro e w' ⟨rfl, rfl⟩))
    | (go_at_call 19; ((with_reducible refine (HJ.out).mono ?_); rintro e w' ⟨rfl, rfl⟩))
    | (go_at_call 31; ((with_reducible refine (HS.out).mono ?_); rintro e w' ⟨rfl, rfl⟩)))
  have W1b := Lib.hid (w2_ok w 12 u v x).2.2
  obtain ⟨⟨q0, q1, q2, q3⟩, _, _⟩ := w2_ok w 12 u v x
  generalize hW1 : w2 w 12 u v x = W1 at *
  go_loopw [13, 14] (fun y iv wr => ∃ k : Nat, k ≤ l.length ∧ iv = .int .i64 k ∧ wr.ownsRow W1.heap.size 60 3 y (kept (l.take k) (ends ⟨12, u, v, x⟩)).length (flat (kept (l.take k) (ends ⟨12, u, v, x⟩))) ∧ Below W1.heap.size W1 wr) (fun _ iv _ => l.length - (intOf iv).toNat)
  case atStart => exact ⟨0, Nat.zero_le _, rfl, World.ownsRow_nil _ _ _ _, Below.refl _ _⟩
  case round =>
    obtain ⟨k, hk, rfl, ho, hb⟩ := hrel
    obtain ⟨T0, tc, hT⟩ := own_any60 ho
    subst hT
    have BD : Hid (∀ q, Below W1.heap.size W1 (wr.drewN q)) := Lib.hid fun q => below_drewN' hb q
    have OD : Hid (∀ q, (wr.drewN q).ownsRow W1.heap.size 60 3 (.slice T0 (kept (l.take k) (ends ⟨12, u, v, x⟩)).length tc) (kept (l.take k) (ends ⟨12, u, v, x⟩)).length (flat (kept (l.take k) (ends ⟨12, u, v, x⟩)))) := Lib.hid fun q => own_drewN ho q
    have ZD : Hid (∀ q, (wr.drewN q).heap.size = wr.heap.size) := Lib.hid fun q => by rw [drewN_heap]
    have HO := Lib.hid ho
    have HB := Lib.hid hb
    have c0 := cellL' q0 hb
    have c1 := cellL' q1 hb
    have c2 := cellL' q2 hb
    have c3 := cellL' q3 hb
    have m1 : (kept (l.take k) (ends ⟨12, u, v, x⟩)).length ≤ 100000 := by have := kept_le (l.take k) (ends ⟨12, u, v, x⟩); rw [List.length_take] at this; omega
    clear ho hb
    by_cases hlt : k < l.length
    · obtain ⟨a, ha⟩ : ∃ a, l[k]? = some a := ⟨_, List.getElem?_eq_getElem hlt⟩
      obtain ⟨b, off, hA, hcs⟩ := (HL.out.below (W1b.out.trans (HB.out.mono W1b.out.size)) (Nat.le_refl _)).2.2 (by omega)
      obtain ⟨e1, e2, e3⟩ := hcs k a ha
      clear hcs
      subst hA
      have i0' : (0 : Int) ≤ (k : Int) := by omega
      have i1' : (k : Int) < (l.length : Int) := by omega
      have kz : IntKind.i64.wrap ((k : Int) + 1) = (k : Int) + 1 := by rw [IntKind.wrap_i64] <;> omega
      by_cases hq1 : a.u = u
      · have hq2 : True := trivial
        have h1e : (a.u == u) = true := by simpa using hq1
        have h1n : (a.u != u) = false := by simpa using hq1
        have HN := Lib.hid (kept_drop (p := ends ⟨12, u, v, x⟩) ha (show ends ⟨12, u, v, x⟩ a = true from decide_eq_true (.inl hq1)))
        clear ha hq1 hq2
        go_wp2
        go_quiet (fail)
        go_wp2
        go_roundw
        case rel => exact ⟨k + 1, by omega, by go_num, by rw [HN.out]; exact OD.out _, BD.out _⟩
        case measure => simp [intOf]; omega
      · by_cases hq2 : a.v = u
        · have h1e : (a.u == u) = false := by simpa using hq1
          have h1n : (a.u != u) = true := by simpa using hq1
          have h2e : (a.v == u) = true := by simpa using hq2
          have h2n : (a.v != u) = false := by simpa using hq2
          have HN := Lib.hid (kept_drop (p := ends ⟨12, u, v, x⟩) ha (show ends ⟨12, u, v, x⟩ a = true from decide_eq_true (.inr hq2)))
          clear ha hq1 hq2
          go_wp2
          go_quiet (fail)
          go_wp2
          go_roundw
          case rel => exact ⟨k + 1, by omega, by go_num, by rw [HN.out]; exact OD.out _, BD.out _⟩
          case measure => simp [intOf]; omega
        · have h1e : (a.u == u) = false := by simpa using hq1
          have h1n : (a.u != u) = true := by simpa using hq1
          have h2e : (a.v == u) = false := by simpa using hq2
          have h2n : (a.v != u) = true := by simpa using hq2
          have HN := Lib.hid (kept_keep (p := ends ⟨12, u, v, x⟩) ha (show ends ⟨12, u, v, x⟩ a = false from by unfold ends; simp [hq1, hq2]))
          clear ha hq1 hq2
          generalize kept (l.take k) (ends ⟨12, u, v, x⟩) = cu at *
          go_wp2
          go_quiet (fail)
          go_wp2_with (
            at_builtin
            refine wpList_app60 rfl (.tmp 107) (.tmp 112) rfl W1.heap.size cu T0 tc wr.heap.size _ a rfl rfl ((OD.out _).alloc _) rfl (row_at _ _ _ (ZD.out _)) m1 ((BD.out _).alloc (BD.out _).size _).size ?_
            intro A5 c5 w5 hown5 hb5
            have HO5 := Lib.hid hown5
            have HB5 := Lib.hid (((BD.out _).alloc (BD.out _).size _).trans hb5)
            clear hown5 hb5)
          go_roundw
          case rel => exact ⟨k + 1, by omega, by go_num, by rw [HN.out]; simpa using HO5.out, HB5.out⟩
          case measure => simp [intOf]; omega
    · obtain rfl : k = l.length := by omega
      have e := Lib.hid (List.take_length (l := l))
      rw [e.out] at HO ⊢
      have hz := (after3 (k := 12) (u := u) (v := v) (x := x) (w := w) wr (by rw [hW1]; exact HB.out))
      have HZ' := Lib.hid hz.1
      have HBk := Lib.hid hz.2.2
      obtain ⟨z1, z2, z3, z4, z5, f1, f2, f3, f4, f5⟩ := hz.1
      clear hz
      go_wp2
      (try simp only [Exit.inBlock, Exit.then])
      exact rdo_fin wr T0 none tc 0 (w.heap.size + 1) 0 _ 0 0 [] (by rw [HG.out]; rfl) rfl rfl HZ'.out (Nat.le_succ _) HBk.out (by rw [HG.out]; exact own_arcs (by have := m1; rw [e.out] at this; omega) FN.out HO.out) HAn.out (sl_nil _ _)

set_option maxHeartbeats 2000000 in
theorem rdo_15 (A : Option Addr) (c n : Nat) (l : List Arc) (u v x : Int) (w : World) (hn : n = l.length) (hl : Arcs w A l) (h40 : l.length ≤ 999) (hu : isV u = true) (hv : isV v = true) (hi : inB l u = true) (hj : inB l v = true) : Calls Tryz.prog 15 #[.slice A n c, .agg #[.int .i64 15, .int .i64 u, .int .i64 v, .int .u64 x]] w (DoPost l ⟨15, u, v, x⟩ w) := by
  have HH := heads A c n l 15 u v x w hn hl
  subst hn
  have HU := HH.is u
  have HV := Lib.hid (HH.is v)
  have HI := HH.inn u
  have HJ := HH.inn v
  have HS := HH.has
  clear HH
  have hq : keysB ⟨15, u, v, x⟩ = true := by unfold keysB; simp [hu, hv, edgeKind]
  have HG := Lib.hid (show doG l ⟨15, u, v, x⟩ = kept l (isE ⟨15, u, v, x⟩) by unfold doG both; simp [hq, hi, hj])
  have HAn := Lib.hid (show doA l ⟨15, u, v, x⟩ = ⟨0, false, 0, 0, []⟩ by unfold doA both; simp [hq, hi, hj])
  have HL := Lib.hid hl
  have T := Lib.hid (@after3 w 15 u v x)
  have FN := Lib.hid (fun a (h : a ∈ kept l (isE ⟨15, u, v, x⟩)) => hl.2.1 a (kept_mem h))
  rw [hu] at HU
  have HU := Lib.hid HU
  have HV0 := HV.out
  rw [hv] at HV0
  have HV := Lib.hid HV0
  clear HV0
  rw [hi] at HI
  rw [hj] at HJ
  have HI := Lib.hid HI
  have HJ := Lib.hid HJ
  have HS := Lib.hid HS
  clear hl hq hu hv hi hj
  go_enter Tryz.func15, Tryz.ntmps15
  go_wp2_with (first
    | (go_at_call 18; ((with_reducible refine (HU.out).mono ?_); rintro e w' ⟨rfl, rfl⟩))
    | (go_at_call 18; ((with_reducible refine (HV.out).mono ?_); rintro e w' ⟨rfl, rfl⟩))
    | (go_at_call 19; ((with_reducible refine (HI.out).mono ?_); rintro e w' ⟨rfl, rfl⟩))
    | (go_at_call 19; ((with_reducible refine (HJ.out).mono ?_); rintro e w' ⟨rfl, rfl⟩))
    | (go_at_call 31; ((with_reducible refine (HS.out).mono ?_); rintro e w' ⟨rfl, rfl⟩)))
  have W1b := Lib.hid (w2_ok w 15 u v x).2.2
  obtain ⟨⟨q0, q1, q2, q3⟩, _, _⟩ := w2_ok w 15 u v x
  generalize hW1 : w2 w 15 u v x = W1 at *
  go_loopw [13, 15] (fun y iv wr => ∃ k : Nat, k ≤ l.length ∧ iv = .int .i64 k ∧ wr.ownsRow W1.heap.size 60 3 y (kept (l.take k) (isE ⟨15, u, v, x⟩)).length (flat (kept (l.take k) (isE ⟨15, u, v, x⟩))) ∧ Below W1.heap.size W1 wr) (fun _ iv _ => l.length - (intOf iv).toNat)
  case atStart => exact ⟨0, Nat.zero_le _, rfl, World.ownsRow_nil _ _ _ _, Below.refl _ _⟩
  case round =>
    obtain ⟨k, hk, rfl, ho, hb⟩ := hrel
    obtain ⟨T0, tc, hT⟩ := own_any60 ho
    subst hT
    have BD : Hid (∀ q, Below W1.heap.size W1 (wr.drewN q)) := Lib.hid fun q => below_drewN' hb q
    have OD : Hid (∀ q, (wr.drewN q).ownsRow W1.heap.size 60 3 (.slice T0 (kept (l.take k) (isE ⟨15, u, v, x⟩)).length tc) (kept (l.take k) (isE ⟨15, u, v, x⟩)).length (flat (kept (l.take k) (isE ⟨15, u, v, x⟩)))) := Lib.hid fun q => own_drewN ho q
    have ZD : Hid (∀ q, (wr.drewN q).heap.size = wr.heap.size) := Lib.hid fun q => by rw [drewN_heap]
    have HO := Lib.hid ho
    have HB := Lib.hid hb
    have c0 := cellL' q0 hb
    have c1 := cellL' q1 hb
    have c2 := cellL' q2 hb
    have c3 := cellL' q3 hb
    have m1 : (kept (l.take k) (isE ⟨15, u, v, x⟩)).length ≤ 100000 := by have := kept_le (l.take k) (isE ⟨15, u, v, x⟩); rw [List.length_take] at this; omega
    clear ho hb
    by_cases hlt : k < l.length
    · obtain ⟨a, ha⟩ : ∃ a, l[k]? = some a := ⟨_, List.getElem?_eq_getElem hlt⟩
      obtain ⟨b, off, hA, hcs⟩ := (HL.out.below (W1b.out.trans (HB.out.mono W1b.out.size)) (Nat.le_refl _)).2.2 (by omega)
      obtain ⟨e1, e2, e3⟩ := hcs k a ha
      clear hcs
      subst hA
      have i0' : (0 : Int) ≤ (k : Int) := by omega
      have i1' : (k : Int) < (l.length : Int) := by omega
      have kz : IntKind.i64.wrap ((k : Int) + 1) = (k : Int) + 1 := by rw [IntKind.wrap_i64] <;> omega
      by_cases hq1 : a.u = u
      · by_cases hq2 : a.v = v
        · have h1e : (a.u == u) = true := by simpa using hq1
          have h1n : (a.u != u) = false := by simpa using hq1
          have h2e : (a.v == v) = true := by simpa using hq2
          have h2n : (a.v != v) = false := by simpa using hq2
          have HN := Lib.hid (kept_drop (p := isE ⟨15, u, v, x⟩) ha (show isE ⟨15, u, v, x⟩ a = true from decide_eq_true ⟨hq1, hq2⟩))
          clear ha hq1 hq2
          go_wp2
          go_quiet (fail)
          go_wp2
          go_roundw
          case rel => exact ⟨k + 1, by omega, by go_num, by rw [HN.out]; exact OD.out _, BD.out _⟩
          case measure => simp [intOf]; omega
        · have h1e : (a.u == u) = true := by simpa using hq1
          have h1n : (a.u != u) = false := by simpa using hq1
          have h2e : (a.v == v) = false := by simpa using hq2
          have h2n : (a.v != v) = true := by simpa using hq2
          have HN := Lib.hid (kept_keep (p := isE ⟨15, u, v, x⟩) ha (show isE ⟨15, u, v, x⟩ a = false from by unfold isE; simp [hq2]))
          clear ha hq1 hq2
          generalize kept (l.take k) (isE ⟨15, u, v, x⟩) = cu at *
          go_wp2
          go_quiet (fail)
          go_wp2_with (
            at_builtin
            refine wpList_app60 rfl (.tmp 185) (.tmp 190) rfl W1.heap.size cu T0 tc wr.heap.size _ a rfl rfl ((OD.out _).alloc _) rfl (row_at _ _ _ (ZD.out _)) m1 ((BD.out _).alloc (BD.out _).size _).size ?_
            intro A5 c5 w5 hown5 hb5
            have HO5 := Lib.hid hown5
            have HB5 := Lib.hid (((BD.out _).alloc (BD.out _).size _).trans hb5)
            clear hown5 hb5)
          go_roundw
          case rel => exact ⟨k + 1, by omega, by go_num, by rw [HN.out]; simpa using HO5.out, HB5.out⟩
          case measure => simp [intOf]; omega
      · have hq2 : True := trivial
        have h1e : (a.u == u) = false := by simpa using hq1
        have h1n : (a.u != u) = true := by simpa using hq1
        have HN := Lib.hid (kept_keep (p := isE ⟨15, u, v, x⟩) ha (show isE ⟨15, u, v, x⟩ a = false from by unfold isE; simp [hq1]))
        clear ha hq1 hq2
        generalize kept (l.take k) (isE ⟨15, u, v, x⟩) = cu at *
        go_wp2
        go_quiet (fail)
        go_wp2_with (
          at_builtin
          refine wpList_app60 rfl (.tmp 185) (.tmp 190) rfl W1.heap.size cu T0 tc wr.heap.size _ a rfl rfl ((OD.out _).alloc _) rfl (row_at _ _ _ (ZD.out _)) m1 ((BD.out _).alloc (BD.out _).size _).size ?_
          intro A5 c5 w5 hown5 hb5
          have HO5 := Lib.hid hown5
          have HB5 := Lib.hid (((BD.out _).alloc (BD.out _).size _).trans hb5)
          clear hown5 hb5)
        go_roundw
        case rel => exact ⟨k + 1, by omega, by go_num, by rw [HN.out]; simpa using HO5.out, HB5.out⟩
        case measure => simp [intOf]; omega
    · obtain rfl : k = l.length := by omega
      have e := Lib.hid (List.take_length (l := l))
      rw [e.out] at HO ⊢
      have hz := (after3 (k := 15) (u := u) (v := v) (x := x) (w := w) wr (by rw [hW1]; exact HB.out))
      have HZ' := Lib.hid hz.1
      have HBk := Lib.hid hz.2.2
      obtain ⟨z1, z2, z3, z4, z5, f1, f2, f3, f4, f5⟩ := hz.1
      clear hz
      go_wp2
      (try simp only [Exit.inBlock, Exit.then])
      exact rdo_fin wr T0 none tc 0 (w.heap.size + 1) 0 _ 0 0 [] (by rw [HG.out]; rfl) rfl rfl HZ'.out (Nat.le_succ _) HBk.out (by rw [HG.out]; exact own_arcs (by have := m1; rw [e.out] at this; omega) FN.out HO.out) HAn.out (sl_nil _ _)

theorem refDo_any (A : Option Addr) (c n : Nat) (l : List Arc) (o : Op) (w : World) (hn : n = l.length) (hl : Arcs w A l) (hs : Rises l) (h40 : l.length ≤ 999) (ho : o.Fine) :
    Calls Tryz.prog 15 #[.slice A n c, .agg #[.int .i64 o.k, .int .i64 o.u, .int .i64 o.v, .int .u64 o.w]] w (DoPost l o w) := by
  obtain ⟨k, u, v, x⟩ := o
  obtain ⟨_, _, _, _, _, _, hx0, hx1⟩ := ho
  simp only at hx0 hx1
  show Calls Tryz.prog 15 #[.slice A n c, .agg #[.int .i64 k, .int .i64 u, .int .i64 v, .int .u64 x]] w _
  rcases Int.lt_or_le k 11 with h1 | h1
  · exact rdo_low A c n l k u v x w hn hl h1
  rcases Int.lt_or_le 17 k with h2 | h2
  · exact rdo_high A c n l k u v x w hn hl h2
  cases hu : isV u
  · have : k = 11 ∨ k = 12 ∨ k = 13 ∨ k = 14 ∨ k = 15 ∨ k = 16 ∨ k = 17 := by omega
    rcases this with rfl | rfl | rfl | rfl | rfl | rfl | rfl
    · exact rdo_keyu11 A c n l u v x w hn hl hu
    · exact rdo_keyu12 A c n l u v x w hn hl hu
    · exact rdo_keyu13 A c n l u v x w hn hl hu
    · exact rdo_keyu14 A c n l u v x w hn hl hu
    · exact rdo_keyu15 A c n l u v x w hn hl hu
    · exact rdo_keyu16 A c n l u v x w hn hl hu
    · exact rdo_keyu17 A c n l u v x w hn hl hu
  have : k = 11 ∨ k = 12 ∨ k = 13 ∨ k = 17 ∨ k = 14 ∨ k = 15 ∨ k = 16 := by omega
  rcases this with rfl | rfl | rfl | rfl | h3
  · cases hi : inB l u
    · exact rdo_11n A c n l u v x w hn hl hs h40 hu hi
    · exact rdo_11y A c n l u v x w hn hl hu hi
  · exact rdo_12 A c n l u v x w hn hl h40 hu
  · exact rdo_13 A c n l u v x w hn hl hu
  · exact rdo_17 A c n l u v x w hn hl h40 hu
  cases hv : isV v
  · rcases h3 with rfl | rfl | rfl
    · exact rdo_keyv14 A c n l u v x w hn hl hu hv
    · exact rdo_keyv15 A c n l u v x w hn hl hu hv
    · exact rdo_keyv16 A c n l u v x w hn hl hu hv
  rcases h3 with rfl | rfl | rfl
  · cases hi : inB l u
    · exact rdo_14nu A c n l u v x w hn hl hu hv hi
    cases hj : inB l v
    · exact rdo_14nv A c n l u v x w hn hl hu hv hi hj
    cases hb : hasB l u v
    · exact rdo_14n A c n l u v x w hn hl hs h40 hu hv hx0 hx1 hi hj hb
    · exact rdo_14y A c n l u v x w hn hl hu hv hi hj hb
  · cases hi : inB l u
    · exact rdo_15nu A c n l u v x w hn hl hu hv hi
    cases hj : inB l v
    · exact rdo_15nv A c n l u v x w hn hl hu hv hi hj
    · exact rdo_15 A c n l u v x w hn hl h40 hu hv hi hj
  · exact rdo_16 A c n l u v x w hn hl hu hv
end Go.Proofs.YtpdfmfkoopdfgaaGreatDoor.Gr
