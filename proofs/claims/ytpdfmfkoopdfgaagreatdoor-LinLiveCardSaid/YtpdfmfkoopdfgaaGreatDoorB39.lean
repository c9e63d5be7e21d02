/- LRefDoF. -/
import Derived.Test.YtpdfmfkoopdfgaaGreatDoorB17
set_option linter.unusedVariables false
set_option linter.unusedSimpArgs false
namespace Go.Proofs.YtpdfmfkoopdfgaaGreatDoor.Gr.F
set_option maxRecDepth 100000
open Go.RowKit Aid

theorem own_fr {w : World} {base : Nat} {e : TypeId} {size : Nat} {A : Option Addr} {n c : Nat} {xs : List Value} (h : w.ownsRow base e size (.slice A n c) n xs) : ∀ p, A = some p → base ≤ p.block := fun p hp => by
  rcases h.2 with ⟨h0, _⟩ | ⟨g, cap, cur, hv, hg, _⟩
  · injection h0 with h0 _ _
    rw [h0] at hp; cases hp
  · injection hv with hA _ _
    rw [hA] at hp; cases hp; exact hg
/-- What Do hands back. -/
def DoPostF (A : Option Addr) (l : List Arc) (o : Op) (w : World) (e : Ending) (w' : World) : Prop :=
  ∃ B d C f, e = .returned (.tuple #[.slice B (doG l o).length d, (doA l o).val C f]) ∧ Arcs w' B (doG l o) ∧ Sl w' C ((doA l o).list.map (Value.int .i64)) ∧ Below w.heap.size w w' ∧ ((B = A ∧ doG l o = l) ∨ ∀ p, B = some p → w.heap.size ≤ p.block)
set_option maxHeartbeats 800000 in
theorem refWith_fr (A : Option Addr) (c n : Nat) (l : List Arc) (x : Arc) (w : World) (hn : n = l.length) (hl : Arcs w A l) (hs : Rises l) (h40 : l.length ≤ 999) (hx : x.Fine) (hno : hasB l x.u x.v = false) :
    Calls Tryz.prog 32 #[.slice A n c, x.val] w fun e w' => ∃ B d, e = .returned (.slice B (withL l x).length d) ∧ Arcs w' B (withL l x) ∧ (∀ p, B = some p → w.heap.size ≤ p.block) ∧ Below w.heap.size w w' := by
  have HW := Lib.hid (withL_miss hno)
  have HPL := Lib.hid (putIn_length x (place_le l ⟨x.u, x.v, 0⟩))
  have hlo : Hid (∀ k a, k < place l ⟨x.u, x.v, 0⟩ → l[k]? = some a → Lt a x) := Lib.hid (place_both (hasB_none hno)).1
  have hhi : Hid (∀ a, l[place l ⟨x.u, x.v, 0⟩]? = some a → Lt x a) := Lib.hid (place_both (hasB_none hno)).2
  have PL := place_le l ⟨x.u, x.v, 0⟩
  have FN := Lib.hid (putIn_fine (i := place l ⟨x.u, x.v, 0⟩) hl.2.1 hx)
  have HL := Lib.hid hl
  obtain ⟨i0, hi0, hz0, hz1, hz2⟩ := info_parts arc_info
  clear hl hs hno
  subst hn
  generalize place l ⟨x.u, x.v, 0⟩ = p at *
  have B0 := Lib.hid ((Below.refl w.heap.size w).alloc (Nat.le_refl _) (.cells #[.int .i64 x.u, .int .i64 x.v, .int .u64 x.w] 60))
  have d1 : (w.alloc (.cells #[.int .i64 x.u, .int .i64 x.v, .int .u64 x.w] 60)).heap[w.heap.size]? = some (.cells #[.int .i64 x.u, .int .i64 x.v, .int .u64 x.w] 60) := heap_alloc_new _ _
  have D1 := Lib.hid d1
  have RO := row_one
  clear d1
  unfold Arc.val
  go_enter Tryz.func32, Tryz.ntmps32
  go_wp2
  have HWL : w.heap.size < (w.alloc (.cells #[.int .i64 x.u, .int .i64 x.v, .int .u64 x.w] 60)).heap.size := by rw [World.size_alloc]; omega
  generalize w.alloc (.cells #[.int .i64 x.u, .int .i64 x.v, .int .u64 x.w] 60) = W1 at *
  go_loopw [5, 6, 7] (fun v ld iv wr => ∃ k : Nat, k ≤ l.length ∧ iv = .int .i64 k ∧ ld = .bool (decide (p < k)) ∧ WI W1 l x p k v wr) (fun _ _ iv _ => l.length - (intOf iv).toNat)
  case atStart => exact ⟨0, Nat.zero_le _, rfl, by simp, World.ownsRow_nil _ _ _ _, Below.refl _ _⟩
  case round =>
    obtain ⟨k, hk, rfl, rfl, hi⟩ := hrel
    obtain ⟨T, tc, hT⟩ := own_any60 hi.own
    subst hT
    have HI := Lib.hid hi
    have bl := (hi.bel.block _ (Array.getElem?_eq_some_iff.1 D1.out).1).trans D1.out
    have e1 : wr.cell? ⟨w.heap.size, 0, none⟩ = some (.int .i64 x.u) := by unfold World.cell?; simp [bl]
    have e2 : wr.cell? ⟨w.heap.size, 1, none⟩ = some (.int .i64 x.v) := by unfold World.cell?; simp [bl]
    have e3 : wr.cell? ⟨w.heap.size, 2, none⟩ = some (.int .u64 x.w) := by unfold World.cell?; simp [bl]
    have HBW := Lib.hid (B0.out.trans (hi.bel.mono B0.out.size))
    have wl := Lib.hid (withUp_len (x := x) (p := p) hk)
    clear hi bl
    by_cases hlt : k < l.length
    · obtain ⟨a, ha⟩ : ∃ a, l[k]? = some a := ⟨_, List.getElem?_eq_getElem hlt⟩
      obtain ⟨b, off, hA, hcs⟩ := (HL.out.below HBW.out (Nat.le_refl _)).2.2 (by omega)
      obtain ⟨c1, c2, c3⟩ := hcs k a ha
      have bw : b < w.heap.size := by
        obtain ⟨b', off', hA', hcs'⟩ := HL.out.2.2 (by omega)
        have := World.block_lt_of_cell? _ _ (hcs' k a ha).1
        rw [hA] at hA'; injection hA' with hA'; injection hA' with hA'; subst hA'
        exact this
      clear hcs
      subst hA
      have i0' : (0 : Int) ≤ (k : Int) := by omega
      have i1' : (k : Int) < (l.length : Int) := by omega
      have kz : IntKind.i64.wrap ((k : Int) + 1) = (k : Int) + 1 := by rw [IntKind.wrap_i64] <;> omega
      have BD : Hid (∀ q, Below W1.heap.size W1 (wr.drewN q)) := Lib.hid fun q => below_drewN' HI.out.bel q
      have OD : Hid (∀ q, (wr.drewN q).ownsRow W1.heap.size 60 3 (.slice T (withUp l x p k).length tc) (withUp l x p k).length (flat (withUp l x p k))) := Lib.hid fun q => own_drewN HI.out.own q
      have ZD : Hid (∀ q, (wr.drewN q).heap.size = wr.heap.size) := Lib.hid fun q => by rw [drewN_heap]
      rcases Nat.lt_trichotomy k p with q | q | q
      · have hlt2 := hlo.out k a q ha
        have HN := Lib.hid (withUp_lo (x := x) q PL ha)
        have dl : decide (p < k) = false := by simp; omega
        have dl2 : decide (p < k + 1) = false := by simp; omega
        clear ha
        generalize withUp l x p k = cu at *
        have m1 : cu.length ≤ 100000 := by have := wl.out; omega
        rw [dl]
        have g1 : decide (x.u < a.u) = false := by unfold Lt at hlt2; simp; omega
        rcases (show (a.u ≠ x.u) ∨ (a.u = x.u ∧ a.v < x.v) by unfold Lt at hlt2; omega) with h3 | ⟨h3, h4⟩
        · have g2 : (a.u == x.u) = false := by simpa using h3
          go_wp2
          go_quiet (fail)
          go_wp2_with (
            at_builtin
            refine wpList_app60 rfl (.tmp 50) (.tmp 55) rfl W1.heap.size cu T tc wr.heap.size _ a rfl rfl ((OD.out _).alloc _) rfl (row_at _ _ _ (ZD.out _)) m1 ((BD.out _).alloc (BD.out _).size _).size ?_
            intro A5 c5 w5 hown5 hb5
            have HO5 := Lib.hid hown5
            have HB5 := Lib.hid (((BD.out _).alloc (BD.out _).size _).trans hb5)
            clear hown5 hb5)
          go_roundw
          case rel => exact ⟨k + 1, by omega, by go_num, by rw [dl2], by rw [HN.out]; simpa using HO5.out, HB5.out⟩
          case measure => simp [intOf]; omega
        · have g2 : (a.u == x.u) = true := by simpa using h3
          have g3 : decide (x.v < a.v) = false := by simp; omega
          clear h3 h4
          go_wp2
          go_quiet (fail)
          go_wp2_with (
            at_builtin
            refine wpList_app60 rfl (.tmp 50) (.tmp 55) rfl W1.heap.size cu T tc wr.heap.size _ a rfl rfl ((OD.out _).alloc _) rfl (row_at _ _ _ (ZD.out _)) m1 ((BD.out _).alloc (BD.out _).size _).size ?_
            intro A5 c5 w5 hown5 hb5
            have HO5 := Lib.hid hown5
            have HB5 := Lib.hid (((BD.out _).alloc (BD.out _).size _).trans hb5)
            clear hown5 hb5)
          go_roundw
          case rel => exact ⟨k + 1, by omega, by go_num, by rw [dl2], by rw [HN.out]; simpa using HO5.out, HB5.out⟩
          case measure => simp [intOf]; omega
      · subst q
        have hlt2 := hhi.out a ha
        have HN := Lib.hid (withUp_at (x := x) ha)
        have dl : decide (k < k) = false := by simp
        have dl2 : decide (k < k + 1) = true := by simp
        clear ha
        generalize withUp l x k k = cu at *
        have m1 : cu.length ≤ 100000 := by have := wl.out; omega
        have m2 : cu.length + 1 ≤ 100000 := by have := wl.out; omega
        have HL1 : Hid (cu.length + 1 = (cu ++ [x]).length) := Lib.hid (by simp)
        rw [dl]
        rcases (show (x.u < a.u) ∨ (a.u = x.u ∧ x.v < a.v) by unfold Lt at hlt2; omega) with h3 | ⟨h3, h4⟩
        · have g1 : decide (x.u < a.u) = true := by simpa using h3
          go_wp2
          go_quiet (fail)
          go_wp2_with (first
           | (
            at_builtin
            refine wpList_app60 rfl (.tmp 46) (.tmp 48) rfl W1.heap.size cu T tc wr.heap.size _ x rfl rfl ((OD.out _).alloc _) rfl (row_at _ _ _ (ZD.out _)) m1 ((BD.out _).alloc (BD.out _).size _).size ?_
            intro A5 c5 w5 hown5 hb5
            have HO5 := Lib.hid hown5
            have HB5 := Lib.hid (((BD.out _).alloc (BD.out _).size _).trans hb5)
            have f2 := cellB (Nat.lt_trans bw HWL) HI.out.bel HB5.out c1
            have f3 := cellB (Nat.lt_trans bw HWL) HI.out.bel HB5.out c2
            have f4 := cellB (Nat.lt_trans bw HWL) HI.out.bel HB5.out c3
            clear hown5 hb5)
           | (
            at_builtin
            refine wpList_app60 rfl (.tmp 50) (.tmp 55) rfl W1.heap.size (cu ++ [x]) A5 c5 w5.heap.size _ a HL1.out rfl (HO5.out.alloc _) rfl (row_at _ _ _ rfl) m2 (HB5.out.alloc HB5.out.size _).size ?_
            intro A6 c6 w6 hown6 hb6
            have HO6 := Lib.hid hown6
            have HB6 := Lib.hid ((HB5.out.alloc HB5.out.size _).trans hb6)
            clear hown6 hb6))
          go_roundw
          case rel => exact ⟨k + 1, by omega, by go_num, by rw [dl2], by rw [HN.out]; simpa using HO6.out, HB6.out⟩
          case measure => simp [intOf]; omega
        · have g1 : decide (x.u < a.u) = false := by simp; omega
          have g2 : (a.u == x.u) = true := by simpa using h3
          have g3 : decide (x.v < a.v) = true := by simpa using h4
          clear h3 h4 hlt2
          go_wp2
          go_quiet (fail)
          go_wp2_with (first
           | (
            at_builtin
            refine wpList_app60 rfl (.tmp 46) (.tmp 48) rfl W1.heap.size cu T tc wr.heap.size _ x rfl rfl ((OD.out _).alloc _) rfl (row_at _ _ _ (ZD.out _)) m1 ((BD.out _).alloc (BD.out _).size _).size ?_
            intro A5 c5 w5 hown5 hb5
            have HO5 := Lib.hid hown5
            have HB5 := Lib.hid (((BD.out _).alloc (BD.out _).size _).trans hb5)
            have f2 := cellB (Nat.lt_trans bw HWL) HI.out.bel HB5.out c1
            have f3 := cellB (Nat.lt_trans bw HWL) HI.out.bel HB5.out c2
            have f4 := cellB (Nat.lt_trans bw HWL) HI.out.bel HB5.out c3
            clear hown5 hb5)
           | (
            at_builtin
            refine wpList_app60 rfl (.tmp 50) (.tmp 55) rfl W1.heap.size (cu ++ [x]) A5 c5 w5.heap.size _ a HL1.out rfl (HO5.out.alloc _) rfl (row_at _ _ _ rfl) m2 (HB5.out.alloc HB5.out.size _).size ?_
            intro A6 c6 w6 hown6 hb6
            have HO6 := Lib.hid hown6
            have HB6 := Lib.hid ((HB5.out.alloc HB5.out.size _).trans hb6)
            clear hown6 hb6))
          go_roundw
          case rel => exact ⟨k + 1, by omega, by go_num, by rw [dl2], by rw [HN.out]; simpa using HO6.out, HB6.out⟩
          case measure => simp [intOf]; omega
      · have HN := Lib.hid (withUp_hi (x := x) q ha)
        have dl : decide (p < k) = true := by simp; omega
        have dl2 : decide (p < k + 1) = true := by simp; omega
        clear ha
        generalize withUp l x p k = cu at *
        have m1 : cu.length ≤ 100000 := by have := wl.out; omega
        rw [dl]
        go_wp2
        go_quiet (fail)
        go_wp2_with (
            at_builtin
            refine wpList_app60 rfl (.tmp 50) (.tmp 55) rfl W1.heap.size cu T tc wr.heap.size _ a rfl rfl ((OD.out _).alloc _) rfl (row_at _ _ _ (ZD.out _)) m1 ((BD.out _).alloc (BD.out _).size _).size ?_
            intro A5 c5 w5 hown5 hb5
            have HO5 := Lib.hid hown5
            have HB5 := Lib.hid (((BD.out _).alloc (BD.out _).size _).trans hb5)
            clear hown5 hb5)
        go_roundw
        case rel => exact ⟨k + 1, by omega, by go_num, by rw [dl2], by rw [HN.out]; simpa using HO5.out, HB5.out⟩
        case measure => simp [intOf]; omega
    · obtain rfl : k = l.length := by omega
      by_cases hp : p < l.length
      · have dl : decide (p < l.length) = true := by simpa using hp
        have e := Lib.hid (withUp_all (x := x) hp)
        rw [dl]
        have HO5 := HI.out.own
        rw [e.out] at HO5 ⊢
        have HO5 := Lib.hid HO5
        go_wp2
        go_ret
        exact ⟨_, _, by rw [HW.out]; rfl, by rw [HW.out]; exact own_arcs (by have := HPL.out; omega) FN.out HO5.out, fun p hp => Nat.le_trans B0.out.size (own_fr HO5.out p hp), HBW.out⟩
      · obtain rfl : p = l.length := by omega
        have dl : decide (l.length < l.length) = false := by simp
        have e := Lib.hid (withUp_end (l := l) (x := x))
        rw [dl]
        have OD : Hid (wr.ownsRow W1.heap.size 60 3 (.slice T (withUp l x l.length l.length).length tc) (withUp l x l.length l.length).length (flat (withUp l x l.length l.length))) := Lib.hid HI.out.own
        generalize withUp l x l.length l.length = cu at *
        have m1 : cu.length ≤ 100000 := by have := wl.out; omega
        go_wp2_with (
          at_builtin
          refine wpList_app60 rfl (.tmp 59) (.tmp 61) rfl W1.heap.size cu T tc wr.heap.size _ x rfl rfl (OD.out.alloc _) rfl (row_at _ _ _ rfl) m1 (HI.out.bel.alloc HI.out.bel.size _).size ?_
          intro A5 c5 w5 hown5 hb5
          have HO5 := Lib.hid hown5
          have HB5 := Lib.hid ((HI.out.bel.alloc HI.out.bel.size _).trans hb5)
          clear hown5 hb5)
        go_ret
        have hl : (putIn l l.length x).length = cu.length + 1 := by rw [← e.out]; simp
        refine ⟨A5, c5, by rw [HW.out, hl]; rfl, ?_, fun p hp => Nat.le_trans B0.out.size (own_fr HO5.out p hp), B0.out.trans (HB5.out.mono B0.out.size)⟩
        rw [HW.out]
        refine own_arcs (c := c5) (by have := HPL.out; omega) FN.out (n := (putIn l l.length x).length) (base := W1.heap.size) ?_
        rw [hl, ← e.out]
        exact HO5.out
theorem rdo_fin {A : Option Addr} {l : List Arc} {o : Op} {w : World} {a : Act} (W : World) (B C : Option Addr) (d f b : Nat) (e : Int) (i : Bool) (n x : Int) (li : List Int) (h4 : a.tmps.getD 4 undef = .slice B (doG l o).length d) (h5 : a.tmps.getD 5 undef = .pointer (some ⟨b, 0, none⟩)) (hd : a.defers = [])
    (hz : ZeroOut W b) (hb : w.heap.size ≤ b) (hbW : Below w.heap.size w W) (harcs : Arcs W B (doG l o)) (ha : doA l o = ⟨e, i, n, x, li⟩) (hs : Sl (W.setCells b 0 [.int .i64 e, .bool i, .int .i64 n, .int .u64 x, .slice C li.length f]) C (li.map (Value.int .i64))) (hf : (B = A ∧ doG l o = l) ∨ ∀ p, B = some p → w.heap.size ≤ p.block) :
    bodyPost Tryz.prog Tryz.f15 (DoPostF A l o w) .ret a (W.setCells b 0 [.int .i64 e, .bool i, .int .i64 n, .int .u64 x, .slice C li.length f]) := by
  refine rdo_ret h4 h5 hd (World.rangeAt_setCells_same W b 0 [.int .i64 e, .bool i, .int .i64 n, .int .u64 x, .slice C li.length f] hz.there) rfl ?_
  unfold DoPostF
  rw [ha]
  exact ⟨B, d, C, f, rfl, arcs_box hz harcs _ rfl, hs, below_set b hb _ 0 hbW, hf⟩
set_option maxHeartbeats 2000000 in
theorem rdo_11y (A : Option Addr) (c n : Nat) (l : List Arc) (u v x : Int) (w : World) (hn : n = l.length) (hl : Arcs w A l) (hu : isV u = true) (hi : inB l u = true) : Calls Tryz.prog 15 #[.slice A n c, .agg #[.int .i64 11, .int .i64 u, .int .i64 v, .int .u64 x]] w (DoPostF A l ⟨11, u, v, x⟩ w) := by
  have HH := heads A c n l 11 u v x w hn hl
  subst hn
  have HU := HH.is u
  have HV := Lib.hid (HH.is v)
  have HI := HH.inn u
  have HJ := HH.inn v
  have HS := HH.has
  clear HH
  have hq : keysB ⟨11, u, v, x⟩ = true := by unfold keysB; simp [hu, edgeKind]
  have HG := Lib.hid (show doG l ⟨11, u, v, x⟩ = l by unfold doG; rw [if_neg (by simp [hq]), if_pos rfl]; exact withL_hit hi)
  have HAn := Lib.hid (show doA l ⟨11, u, v, x⟩ = ⟨0, false, 0, 0, []⟩ by unfold doA; simp [hq, hi])
  have HL := Lib.hid hl
  rw [hu] at HU
  have HU := Lib.hid HU
  rw [hi] at HI
  have HI := Lib.hid HI
  have HJ := Lib.hid HJ
  have HS := Lib.hid HS
  clear hl hq hu hi
  go_enter Tryz.func15, Tryz.ntmps15
  go_wp2_with (first
    | (go_at_call 18; ((with_reducible refine (HU.out).mono ?_); rintro e w' ⟨rfl, rfl⟩))
    | (go_at_call 18; ((with_reducible refine (HV.out).mono ?_); rintro e w' ⟨rfl, rfl⟩))
    | (go_at_call 19; ((with_reducible refine (HI.out).mono ?_); rintro e w' ⟨rfl, rfl⟩))
    | (go_at_call 19; ((with_reducible refine (HJ.out).mono ?_); rintro e w' ⟨rfl, rfl⟩))
    | (go_at_call 31; ((with_reducible refine (HS.out).mono ?_); rintro e w' ⟨rfl, rfl⟩)))
  (try simp only [Exit.inBlock, Exit.then])
  refine rdo_ret rfl rfl rfl (range_new2 _ _ _ _) rfl ?_
  unfold DoPostF
  rw [HG.out, HAn.out]
  exact ⟨A, c, none, 0, rfl, HL.out.below (w2_below _ _ _) (Nat.le_refl _), sl_nil _ _, w2_below _ _ _, .inl ⟨rfl, by first | rfl | exact HG.out⟩⟩

set_option maxHeartbeats 2000000 in
theorem rdo_13 (A : Option Addr) (c n : Nat) (l : List Arc) (u v x : Int) (w : World) (hn : n = l.length) (hl : Arcs w A l) (hu : isV u = true) : Calls Tryz.prog 15 #[.slice A n c, .agg #[.int .i64 13, .int .i64 u, .int .i64 v, .int .u64 x]] w (DoPostF A l ⟨13, u, v, x⟩ w) := by
  have HH := heads A c n l 13 u v x w hn hl
  subst hn
  have HU := HH.is u
  have HV := Lib.hid (HH.is v)
  have HI := HH.inn u
  have HJ := HH.inn v
  have HS := HH.has
  clear HH
  have hq : keysB ⟨13, u, v, x⟩ = true := by unfold keysB; simp [hu, edgeKind]
  have HG := Lib.hid (show doG l ⟨13, u, v, x⟩ = l by exact doG_plain (by simp) (by simp) hq (.inl rfl))
  have HAn := Lib.hid (show doA l ⟨13, u, v, x⟩ = ⟨0, inB l u, 0, 0, []⟩ by unfold doA; simp [hq])
  have HL := Lib.hid hl
  rw [hu] at HU
  have HU := Lib.hid HU
  have HI := Lib.hid HI
  have HJ := Lib.hid HJ
  have HS := Lib.hid HS
  clear hl hq hu
  go_enter Tryz.func15, Tryz.ntmps15
  go_wp2_with (first
    | (go_at_call 18; ((with_reducible refine (HU.out).mono ?_); rintro e w' ⟨rfl, rfl⟩))
    | (go_at_call 18; ((with_reducible refine (HV.out).mono ?_); rintro e w' ⟨rfl, rfl⟩))
    | (go_at_call 19; ((with_reducible refine (HI.out).mono ?_); rintro e w' ⟨rfl, rfl⟩))
    | (go_at_call 19; ((with_reducible refine (HJ.out).mono ?_); rintro e w' ⟨rfl, rfl⟩))
    | (go_at_call 31; ((with_reducible refine (HS.out).mono ?_); rintro e w' ⟨rfl, rfl⟩)))
  (try simp only [Exit.inBlock, Exit.then])
  refine rdo_ret rfl rfl rfl (range_new2 _ _ _ _) rfl ?_
  unfold DoPostF
  rw [HG.out, HAn.out]
  exact ⟨A, c, none, 0, rfl, HL.out.below (w2_below _ _ _) (Nat.le_refl _), sl_nil _ _, w2_below _ _ _, .inl ⟨rfl, by first | rfl | exact HG.out⟩⟩

set_option maxHeartbeats 2000000 in
theorem rdo_16 (A : Option Addr) (c n : Nat) (l : List Arc) (u v x : Int) (w : World) (hn : n = l.length) (hl : Arcs w A l) (hu : isV u = true) (hv : isV v = true) : Calls Tryz.prog 15 #[.slice A n c, .agg #[.int .i64 16, .int .i64 u, .int .i64 v, .int .u64 x]] w (DoPostF A l ⟨16, u, v, x⟩ w) := by
  have HH := heads A c n l 16 u v x w hn hl
  subst hn
  have HU := HH.is u
  have HV := Lib.hid (HH.is v)
  have HI := HH.inn u
  have HJ := HH.inn v
  have HS := HH.has
  clear HH
  have hq : keysB ⟨16, u, v, x⟩ = true := by unfold keysB; simp [hu, hv, edgeKind]
  have HG := Lib.hid (show doG l ⟨16, u, v, x⟩ = l by exact doG_plain (by simp) (by simp) hq (.inr (.inl rfl)))
  have HAn := Lib.hid (show doA l ⟨16, u, v, x⟩ = ⟨0, hasB l u v, 0, hasW l u v, []⟩ by unfold doA; simp [hq])
  have HL := Lib.hid hl
  rw [hu] at HU
  have HU := Lib.hid HU
  have HV0 := HV.out
  rw [hv] at HV0
  have HV := Lib.hid HV0
  clear HV0
  have HI := Lib.hid HI
  have HJ := Lib.hid HJ
  have HS := Lib.hid HS
  clear hl hq hu hv
  go_enter Tryz.func15, Tryz.ntmps15
  go_wp2_with (first
    | (go_at_call 18; ((with_reducible refine (HU.out).mono ?_); rintro e w' ⟨rfl, rfl⟩))
    | (go_at_call 18; ((with_reducible refine (HV.out).mono ?_); rintro e w' ⟨rfl, rfl⟩))
    | (go_at_call 19; ((with_reducible refine (HI.out).mono ?_); rintro e w' ⟨rfl, rfl⟩))
    | (go_at_call 19; ((with_reducible refine (HJ.out).mono ?_); rintro e w' ⟨rfl, rfl⟩))
    | (go_at_call 31; ((with_reducible refine (HS.out).mono ?_); rintro e w' ⟨rfl, rfl⟩)))
  (try simp only [Exit.inBlock, Exit.then])
  refine rdo_ret rfl rfl rfl (range_new2 _ _ _ _) rfl ?_
  unfold DoPostF
  rw [HG.out, HAn.out]
  exact ⟨A, c, none, 0, rfl, HL.out.below (w2_below _ _ _) (Nat.le_refl _), sl_nil _ _, w2_below _ _ _, .inl ⟨rfl, by first | rfl | exact HG.out⟩⟩

set_option maxHeartbeats 2000000 in
theorem rdo_14nu (A : Option Addr) (c n : Nat) (l : List Arc) (u v x : Int) (w : World) (hn : n = l.length) (hl : Arcs w A l) (hu : isV u = true) (hv : isV v = true) (hi : inB l u = false) : Calls Tryz.prog 15 #[.slice A n c, .agg #[.int .i64 14, .int .i64 u, .int .i64 v, .int .u64 x]] w (DoPostF A l ⟨14, u, v, x⟩ w) := by
  have HH := heads A c n l 14 u v x w hn hl
  subst hn
  have HU := HH.is u
  have HV := Lib.hid (HH.is v)
  have HI := HH.inn u
  have HJ := HH.inn v
  have HS := HH.has
  clear HH
  have hq : keysB ⟨14, u, v, x⟩ = true := by unfold keysB; simp [hu, hv, edgeKind]
  have HG := Lib.hid (show doG l ⟨14, u, v, x⟩ = l by unfold doG both; simp [hq, hi])
  have HAn := Lib.hid (show doA l ⟨14, u, v, x⟩ = ⟨5, false, 0, 0, []⟩ by unfold doA both; simp [hq, hi])
  have HL := Lib.hid hl
  rw [hu] at HU
  have HU := Lib.hid HU
  have HV0 := HV.out
  rw [hv] at HV0
  have HV := Lib.hid HV0
  clear HV0
  rw [hi] at HI
  have HI := Lib.hid HI
  have HJ := Lib.hid HJ
  have HS := Lib.hid HS
  clear hl hq hu hv hi
  go_enter Tryz.func15, Tryz.ntmps15
  go_wp2_with (first
    | (go_at_call 18; ((with_reducible refine (HU.out).mono ?_); rintro e w' ⟨rfl, rfl⟩))
    | (go_at_call 18; ((with_reducible refine (HV.out).mono ?_); rintro e w' ⟨rfl, rfl⟩))
    | (go_at_call 19; ((with_reducible refine (HI.out).mono ?_); rintro e w' ⟨rfl, rfl⟩))
    | (go_at_call 19; ((with_reducible refine (HJ.out).mono ?_); rintro e w' ⟨rfl, rfl⟩))
    | (go_at_call 31; ((with_reducible refine (HS.out).mono ?_); rintro e w' ⟨rfl, rfl⟩)))
  (try simp only [Exit.inBlock, Exit.then])
  refine rdo_ret rfl rfl rfl (range_new2 _ _ _ _) rfl ?_
  unfold DoPostF
  rw [HG.out, HAn.out]
  exact ⟨A, c, none, 0, rfl, HL.out.below (w2_below _ _ _) (Nat.le_refl _), sl_nil _ _, w2_below _ _ _, .inl ⟨rfl, by first | rfl | exact HG.out⟩⟩

set_option maxHeartbeats 2000000 in
theorem rdo_14nv (A : Option Addr) (c n : Nat) (l : List Arc) (u v x : Int) (w : World) (hn : n = l.length) (hl : Arcs w A l) (hu : isV u = true) (hv : isV v = true) (hi : inB l u = true) (hj : inB l v = false) : Calls Tryz.prog 15 #[.slice A n c, .agg #[.int .i64 14, .int .i64 u, .int .i64 v, .int .u64 x]] w (DoPostF A l ⟨14, u, v, x⟩ w) := by
  have HH := heads A c n l 14 u v x w hn hl
  subst hn
  have HU := HH.is u
  have HV := Lib.hid (HH.is v)
  have HI := HH.inn u
  have HJ := HH.inn v
  have HS := HH.has
  clear HH
  have hq : keysB ⟨14, u, v, x⟩ = true := by unfold keysB; simp [hu, hv, edgeKind]
  have HG := Lib.hid (show doG l ⟨14, u, v, x⟩ = l by unfold doG both; simp [hq, hi, hj])
  have HAn := Lib.hid (show doA l ⟨14, u, v, x⟩ = ⟨5, false, 0, 0, []⟩ by unfold doA both; simp [hq, hi, hj])
  have HL := Lib.hid hl
  rw [hu] at HU
  have HU := Lib.hid HU
  have HV0 := HV.out
  rw [hv] at HV0
  have HV := Lib.hid HV0
  clear HV0
  rw [hi] at HI
  rw [hj] at HJ
  have HI := Lib.hid HI
  have HJ := Lib.hid HJ
  have HS := Lib.hid HS
  clear hl hq hu hv hi hj
  go_enter Tryz.func15, Tryz.ntmps15
  go_wp2_with (first
    | (go_at_call 18; ((with_reducible refine (HU.out).mono ?_); rintro e w' ⟨rfl, rfl⟩))
    | (go_at_call 18; ((with_reducible refine (HV.out).mono ?_); rintro e w' ⟨rfl, rfl⟩))
    | (go_at_call 19; ((with_reducible refine (HI.out).mono ?_); rintro e w' ⟨rfl, rfl⟩))
    | (go_at_call 19; ((with_reducible refine (HJ.out).mono ?_); rintro e w' ⟨rfl, rfl⟩))
    | (go_at_call 31; ((with_reducible refine (HS.out).mono ?_); rintro e w' ⟨rfl, rfl⟩)))
  (try simp only [Exit.inBlock, Exit.then])
  refine rdo_ret rfl rfl rfl (range_new2 _ _ _ _) rfl ?_
  unfold DoPostF
  rw [HG.out, HAn.out]
  exact ⟨A, c, none, 0, rfl, HL.out.below (w2_below _ _ _) (Nat.le_refl _), sl_nil _ _, w2_below _ _ _, .inl ⟨rfl, by first | rfl | exact HG.out⟩⟩

set_option maxHeartbeats 2000000 in
theorem rdo_15nu (A : Option Addr) (c n : Nat) (l : List Arc) (u v x : Int) (w : World) (hn : n = l.length) (hl : Arcs w A l) (hu : isV u = true) (hv : isV v = true) (hi : inB l u = false) : Calls Tryz.prog 15 #[.slice A n c, .agg #[.int .i64 15, .int .i64 u, .int .i64 v, .int .u64 x]] w (DoPostF A l ⟨15, u, v, x⟩ w) := by
  have HH := heads A c n l 15 u v x w hn hl
  subst hn
  have HU := HH.is u
  have HV := Lib.hid (HH.is v)
  have HI := HH.inn u
  have HJ := HH.inn v
  have HS := HH.has
  clear HH
  have hq : keysB ⟨15, u, v, x⟩ = true := by unfold keysB; simp [hu, hv, edgeKind]
  have HG := Lib.hid (show doG l ⟨15, u, v, x⟩ = l by unfold doG both; simp [hq, hi])
  have HAn := Lib.hid (show doA l ⟨15, u, v, x⟩ = ⟨5, false, 0, 0, []⟩ by unfold doA both; simp [hq, hi])
  have HL := Lib.hid hl
  rw [hu] at HU
  have HU := Lib.hid HU
  have HV0 := HV.out
  rw [hv] at HV0
  have HV := Lib.hid HV0
  clear HV0
  rw [hi] at HI
  have HI := Lib.hid HI
  have HJ := Lib.hid HJ
  have HS := Lib.hid HS
  clear hl hq hu hv hi
  go_enter Tryz.func15, Tryz.ntmps15
  go_wp2_with (first
    | (go_at_call 18; ((with_reducible refine (HU.out).mono ?_); rintro e w' ⟨rfl, rfl⟩))
    | (go_at_call 18; ((with_reducible refine (HV.out).mono ?_); rintro e w' ⟨rfl, rfl⟩))
    | (go_at_call 19; ((with_reducible refine (HI.out).mono ?_); rintro e w' ⟨rfl, rfl⟩))
    | (go_at_call 19; ((with_reducible refine (HJ.out).mono ?_); rintro e w' ⟨rfl, rfl⟩))
    | (go_at_call 31; ((with_reducible refine (HS.out).mono ?_); rintro e w' ⟨rfl, rfl⟩)))
  (try simp only [Exit.inBlock, Exit.then])
  refine rdo_ret rfl rfl rfl (range_new2 _ _ _ _) rfl ?_
  unfold DoPostF
  rw [HG.out, HAn.out]
  exact ⟨A, c, none, 0, rfl, HL.out.below (w2_below _ _ _) (Nat.le_refl _), sl_nil _ _, w2_below _ _ _, .inl ⟨rfl, by first | rfl | exact HG.out⟩⟩

set_option maxHeartbeats 2000000 in
theorem rdo_15nv (A : Option Addr) (c n : Nat) (l : List Arc) (u v x : Int) (w : World) (hn : n = l.length) (hl : Arcs w A l) (hu : isV u = true) (hv : isV v = true) (hi : inB l u = true) (hj : inB l v = false) : Calls Tryz.prog 15 #[.slice A n c, .agg #[.int .i64 15, .int .i64 u, .int .i64 v, .int .u64 x]] w (DoPostF A l ⟨15, u, v, x⟩ w) := by
  have HH := heads A c n l 15 u v x w hn hl
  subst hn
  have HU := HH.is u
  have HV := Lib.hid (HH.is v)
  have HI := HH.inn u
  have HJ := HH.inn v
  have HS := HH.has
  clear HH
  have hq : keysB ⟨15, u, v, x⟩ = true := by unfold keysB; simp [hu, hv, edgeKind]
  have HG := Lib.hid (show doG l ⟨15, u, v, x⟩ = l by unfold doG both; simp [hq, hi, hj])
  have HAn := Lib.hid (show doA l ⟨15, u, v, x⟩ = ⟨5, false, 0, 0, []⟩ by unfold doA both; simp [hq, hi, hj])
  have HL := Lib.hid hl
  rw [hu] at HU
  have HU := Lib.hid HU
  have HV0 := HV.out
  rw [hv] at HV0
  have HV := Lib.hid HV0
  clear HV0
  rw [hi] at HI
  rw [hj] at HJ
  have HI := Lib.hid HI
  have HJ := Lib.hid HJ
  have HS := Lib.hid HS
  clear hl hq hu hv hi hj
  go_enter Tryz.func15, Tryz.ntmps15
  go_wp2_with (first
    | (go_at_call 18; ((with_reducible refine (HU.out).mono ?_); rintro e w' ⟨rfl, rfl⟩))
    | (go_at_call 18; ((with_reducible refine (HV.out).mono ?_); rintro e w' ⟨rfl, rfl⟩))
    | (go_at_call 19; ((with_reducible refine (HI.out).mono ?_); rintro e w' ⟨rfl, rfl⟩))
    | (go_at_call 19; ((with_reducible refine (HJ.out).mono ?_); rintro e w' ⟨rfl, rfl⟩))
    | (go_at_call 31; ((with_reducible refine (HS.out).mono ?_); rintro e w' ⟨rfl, rfl⟩)))
  (try simp only [Exit.inBlock, Exit.then])
  refine rdo_ret rfl rfl rfl (range_new2 _ _ _ _) rfl ?_
  unfold DoPostF
  rw [HG.out, HAn.out]
  exact ⟨A, c, none, 0, rfl, HL.out.below (w2_below _ _ _) (Nat.le_refl _), sl_nil _ _, w2_below _ _ _, .inl ⟨rfl, by first | rfl | exact HG.out⟩⟩

set_option maxHeartbeats 2000000 in
theorem rdo_14y (A : Option Addr) (c n : Nat) (l : List Arc) (u v x : Int) (w : World) (hn : n = l.length) (hl : Arcs w A l) (hu : isV u = true) (hv : isV v = true) (hi : inB l u = true) (hj : inB l v = true) (hb : hasB l u v = true) : Calls Tryz.prog 15 #[.slice A n c, .agg #[.int .i64 14, .int .i64 u, .int .i64 v, .int .u64 x]] w (DoPostF A l ⟨14, u, v, x⟩ w) := by
  have HH := heads A c n l 14 u v x w hn hl
  subst hn
  have HU := HH.is u
  have HV := Lib.hid (HH.is v)
  have HI := HH.inn u
  have HJ := HH.inn v
  have HS := HH.has
  clear HH
  have hq : keysB ⟨14, u, v, x⟩ = true := by unfold keysB; simp [hu, hv, edgeKind]
  have HG := Lib.hid (show doG l ⟨14, u, v, x⟩ = l by unfold doG both; simp [hq, hi, hj]; exact withL_hit hb)
  have HAn := Lib.hid (show doA l ⟨14, u, v, x⟩ = ⟨0, false, 0, 0, []⟩ by unfold doA both; simp [hq, hi, hj])
  have HL := Lib.hid hl
  rw [hu] at HU
  have HU := Lib.hid HU
  have HV0 := HV.out
  rw [hv] at HV0
  have HV := Lib.hid HV0
  clear HV0
  rw [hi] at HI
  rw [hj] at HJ
  rw [hb] at HS
  have HI := Lib.hid HI
  have HJ := Lib.hid HJ
  have HS := Lib.hid HS
  clear hl hq hu hv hi hj hb
  go_enter Tryz.func15, Tryz.ntmps15
  go_wp2_with (first
    | (go_at_call 18; ((with_reducible refine (HU.out).mono ?_); rintro e w' ⟨rfl, rfl⟩))
    | (go_at_call 18; ((with_reducible refine (HV.out).mono ?_); rintro e w' ⟨rfl, rfl⟩))
    | (go_at_call 19; ((with_reducible refine (HI.out).mono ?_); rintro e w' ⟨rfl, rfl⟩))
    | (go_at_call 19; ((with_reducible refine (HJ.out).mono ?_); rintro e w' ⟨rfl, rfl⟩))
    | (go_at_call 31; ((with_reducible refine (HS.out).mono ?_); rintro e w' ⟨rfl, rfl⟩)))
  (try simp only [Exit.inBlock, Exit.then])
  refine rdo_ret rfl rfl rfl (range_new2 _ _ _ _) rfl ?_
  unfold DoPostF
  rw [HG.out, HAn.out]
  exact ⟨A, c, none, 0, rfl, HL.out.below (w2_below _ _ _) (Nat.le_refl _), sl_nil _ _, w2_below _ _ _, .inl ⟨rfl, by first | rfl | exact HG.out⟩⟩

set_option maxHeartbeats 2000000 in
theorem rdo_11n (A : Option Addr) (c n : Nat) (l : List Arc) (u v x : Int) (w : World) (hn : n = l.length) (hl : Arcs w A l) (hs : Rises l) (h40 : l.length ≤ 999) (hu : isV u = true) (hi : inB l u = false) : Calls Tryz.prog 15 #[.slice A n c, .agg #[.int .i64 11, .int .i64 u, .int .i64 v, .int .u64 x]] w (DoPostF A l ⟨11, u, v, x⟩ w) := by
  have HH := heads A c n l 11 u v x w hn hl
  subst hn
  have HU := HH.is u
  have HV := Lib.hid (HH.is v)
  have HI := HH.inn u
  have HJ := HH.inn v
  have HS := HH.has
  clear HH
  have hq : keysB ⟨11, u, v, x⟩ = true := by unfold keysB; simp [hu, edgeKind]
  have HG := Lib.hid (show doG l ⟨11, u, v, x⟩ = withL l ⟨u, -1, 0⟩ by unfold doG; rw [if_neg (by simp [hq]), if_pos rfl])
  have HAn := Lib.hid (show doA l ⟨11, u, v, x⟩ = ⟨0, true, 0, 0, []⟩ by unfold doA; simp [hq, hi])
  have HL := Lib.hid hl
  have T := Lib.hid (@after3 w 11 u v x)
  have HWi := Lib.hid (refWith_fr A c l.length l ⟨u, -1, 0⟩ (w2 w 11 u v x) rfl (hl.below (w2_ok w 11 u v x).2.2 (Nat.le_refl _)) hs h40 (fine_v hu) hi)
  unfold Arc.val at HWi
  simp only at HWi
  rw [hu] at HU
  have HU := Lib.hid HU
  rw [hi] at HI
  have HI := Lib.hid HI
  have HJ := Lib.hid HJ
  have HS := Lib.hid HS
  clear hl hq hs hu hi
  go_enter Tryz.func15, Tryz.ntmps15
  go_wp2_with (first
    | (go_at_call 18; ((with_reducible refine (HU.out).mono ?_); rintro e w' ⟨rfl, rfl⟩))
    | (go_at_call 18; ((with_reducible refine (HV.out).mono ?_); rintro e w' ⟨rfl, rfl⟩))
    | (go_at_call 19; ((with_reducible refine (HI.out).mono ?_); rintro e w' ⟨rfl, rfl⟩))
    | (go_at_call 19; ((with_reducible refine (HJ.out).mono ?_); rintro e w' ⟨rfl, rfl⟩))
    | (go_at_call 31; ((with_reducible refine (HS.out).mono ?_); rintro e w' ⟨rfl, rfl⟩))
    | (go_at_call 32; ((with_reducible refine (HWi.out).mono ?_); rintro e w4 ⟨B, d, rfl, ha4, hfr4, hb4⟩; have FR4 := Lib.hid hfr4; have HA4 := Lib.hid ha4; obtain ⟨hz, _, hbb⟩ := T.out _ hb4; have HZ' := Lib.hid hz; have HBk := Lib.hid hbb; obtain ⟨z1, z2, z3, z4, z5, f1, f2, f3, f4, f5⟩ := hz; clear ha4 hb4 hbb hfr4)))
  (try simp only [Exit.inBlock, Exit.then])
  exact rdo_fin w4 B none d 0 (w.heap.size + 1) 0 true 0 0 [] (by rw [HG.out]; rfl) rfl rfl HZ'.out (Nat.le_succ _) HBk.out (by rw [HG.out]; exact HA4.out) HAn.out (sl_nil _ _) (.inr (fun p hp => Nat.le_trans (w2_ok w 11 u v x).2.2.size (FR4.out p hp)))

set_option maxHeartbeats 2000000 in
theorem rdo_14n (A : Option Addr) (c n : Nat) (l : List Arc) (u v x : Int) (w : World) (hn : n = l.length) (hl : Arcs w A l) (hs : Rises l) (h40 : l.length ≤ 999) (hu : isV u = true) (hv : isV v = true) (hx0 : 0 ≤ x) (hx1 : x < 18446744073709551616) (hi : inB l u = true) (hj : inB l v = true) (hb : hasB l u v = false) : Calls Tryz.prog 15 #[.slice A n c, .agg #[.int .i64 14, .int .i64 u, .int .i64 v, .int .u64 x]] w (DoPostF A l ⟨14, u, v, x⟩ w) := by
  have HH := heads A c n l 14 u v x w hn hl
  subst hn
  have HU := HH.is u
  have HV := Lib.hid (HH.is v)
  have HI := HH.inn u
  have HJ := HH.inn v
  have HS := HH.has
  clear HH
  have hq : keysB ⟨14, u, v, x⟩ = true := by unfold keysB; simp [hu, hv, edgeKind]
  have HG := Lib.hid (show doG l ⟨14, u, v, x⟩ = withL l ⟨u, v, x⟩ by unfold doG both; simp [hq, hi, hj])
  have HAn := Lib.hid (show doA l ⟨14, u, v, x⟩ = ⟨0, false, 0, 0, []⟩ by unfold doA both; simp [hq, hi, hj])
  have HL := Lib.hid hl
  have T := Lib.hid (@after3 w 14 u v x)
  have HWi := Lib.hid (refWith_fr A c l.length l ⟨u, v, x⟩ (w2 w 14 u v x) rfl (hl.below (w2_ok w 14 u v x).2.2 (Nat.le_refl _)) hs h40 (fine_e hu hv hx0 hx1) hb)
  unfold Arc.val at HWi
  simp only at HWi
  rw [hu] at HU
  have HU := Lib.hid HU
  have HV0 := HV.out
  rw [hv] at HV0
  have HV := Lib.hid HV0
  clear HV0
  rw [hi] at HI
  rw [hj] at HJ
  rw [hb] at HS
  have HI := Lib.hid HI
  have HJ := Lib.hid HJ
  have HS := Lib.hid HS
  clear hl hq hs hu hv hi hj hb
  go_enter Tryz.func15, Tryz.ntmps15
  go_wp2_with (first
    | (go_at_call 18; ((with_reducible refine (HU.out).mono ?_); rintro e w' ⟨rfl, rfl⟩))
    | (go_at_call 18; ((with_reducible refine (HV.out).mono ?_); rintro e w' ⟨rfl, rfl⟩))
    | (go_at_call 19; ((with_reducible refine (HI.out).mono ?_); rintro e w' ⟨rfl, rfl⟩))
    | (go_at_call 19; ((with_reducible refine (HJ.out).mono ?_); rintro e w' ⟨rfl, rfl⟩))
    | (go_at_call 31; ((with_reducible refine (HS.out).mono ?_); rintro e w' ⟨rfl, rfl⟩))
    | (go_at_call 32; ((with_reducible refine (HWi.out).mono ?_); rintro e w4 ⟨B, d, rfl, ha4, hfr4, hb4⟩; have FR4 := Lib.hid hfr4; have HA4 := Lib.hid ha4; obtain ⟨hz, _, hbb⟩ := T.out _ hb4; have HZ' := Lib.hid hz; have HBk := Lib.hid hbb; obtain ⟨z1, z2, z3, z4, z5, f1, f2, f3, f4, f5⟩ := hz; clear ha4 hb4 hbb hfr4)))
  (try simp only [Exit.inBlock, Exit.then])
  exact rdo_fin w4 B none d 0 (w.heap.size + 1) 0 false 0 0 [] (by rw [HG.out]; rfl) rfl rfl HZ'.out (Nat.le_succ _) HBk.out (by rw [HG.out]; exact HA4.out) HAn.out (sl_nil _ _) (.inr (fun p hp => Nat.le_trans (w2_ok w 14 u v x).2.2.size (FR4.out p hp)))

set_option maxHeartbeats 2000000 in
theorem rdo_12 (A : Option Addr) (c n : Nat) (l : List Arc) (u v x : Int) (w : World) (hn : n = l.length) (hl : Arcs w A l) (h40 : l.length ≤ 999) (hu : isV u = true) : Calls Tryz.prog 15 #[.slice A n c, .agg #[.int .i64 12, .int .i64 u, .int .i64 v, .int .u64 x]] w (DoPostF A l ⟨12, u, v, x⟩ w) := by
  have HH := heads A c n l 12 u v x w hn hl
  subst hn
  have HU := HH.is u
  have HV := Lib.hid (HH.is v)
  have HI := HH.inn u
  have HJ := HH.inn v
  have HS := HH.has
  clear HH
  have hq : keysB ⟨12, u, v, x⟩ = true := by unfold keysB; simp [hu, edgeKind]
  have HG := Lib.hid (show doG l ⟨12, u, v, x⟩ = kept l (ends ⟨12, u, v, x⟩) by unfold doG; rw [if_neg (by simp [hq]), if_neg (by simp), if_pos rfl])
  have HAn := Lib.hid (show doA l ⟨12, u, v, x⟩ = ⟨0, inB l u, 0, 0, []⟩ by unfold doA; simp [hq])
  have HL := Lib.hid hl
  have T := Lib.hid (@after3 w 12 u v x)
  have FN := Lib.hid (fun a (h : a ∈ kept l (ends ⟨12, u, v, x⟩)) => hl.2.1 a (kept_mem h))
  rw [hu] at HU
  have HU := Lib.hid HU
  have HI := Lib.hid HI
  have HJ := Lib.hid HJ
  have HS := Lib.hid HS
  clear hl hq hu
  go_enter Tryz.func15, Tryz.ntmps15
  go_wp2_with (first
    | (go_at_call 18; ((with_reducible refine (HU.out).mono ?_); rintro e w' ⟨rfl, rfl⟩))
    | (go_at_call 18; ((with_reducible refine (HV.out).mono ?_); rintro e w' ⟨rfl, rfl⟩))
    | (go_at_call 19; ((with_reducible refine (HI.out).mono ?_); rintro e w' ⟨rfl, rfl⟩))
    | (go_at_call 19; ((with_reducible refine (HJ.out).mono ?_); rintro e w' ⟨rfl, rfl⟩))
    | (go_at_call 31; ((with_reducible refine (HS.out).mono ?_); rintro e w' ⟨rfl, rfl⟩)))
  have W1b := Lib.hid (w2_ok w 12 u v x).2.2
  obtain ⟨⟨q0, q1, q2, q3⟩, _, _⟩ := w2_ok w 12 u v x
  generalize hW1 : w2 w 12 u v x = W1 at *
  go_loopw [13, 14] (fun y iv wr => ∃ k : Nat, k ≤ l.length ∧ iv = .int .i64 k ∧ wr.ownsRow W1.heap.size 60 3 y (kept (l.take k) (ends ⟨12, u, v, x⟩)).length (flat (kept (l.take k) (ends ⟨12, u, v, x⟩))) ∧ Below W1.heap.size W1 wr) (fun _ iv _ => l.length - (intOf iv).toNat)
  case atStart => exact ⟨0, Nat.zero_le _, rfl, World.ownsRow_nil _ _ _ _, Below.refl _ _⟩
  case round =>
    obtain ⟨k, hk, rfl, ho, hb⟩ := hrel
    obtain ⟨T0, tc, hT⟩ := own_any60 ho
    subst hT
    have BD : Hid (∀ q, Below W1.heap.size W1 (wr.drewN q)) := Lib.hid fun q => below_drewN' hb q
    have OD : Hid (∀ q, (wr.drewN q).ownsRow W1.heap.size 60 3 (.slice T0 (kept (l.take k) (ends ⟨12, u, v, x⟩)).length tc) (kept (l.take k) (ends ⟨12, u, v, x⟩)).length (flat (kept (l.take k) (ends ⟨12, u, v, x⟩)))) := Lib.hid fun q => own_drewN ho q
    have ZD : Hid (∀ q, (wr.drewN q).heap.size = wr.heap.size) := Lib.hid fun q => by rw [drewN_heap]
    have HO := Lib.hid ho
    have HB := Lib.hid hb
    have c0 := cellL' q0 hb
    have c1 := cellL' q1 hb
    have c2 := cellL' q2 hb
    have c3 := cellL' q3 hb
    have m1 : (kept (l.take k) (ends ⟨12, u, v, x⟩)).length ≤ 100000 := by have := kept_le (l.take k) (ends ⟨12, u, v, x⟩); rw [List.length_take] at this; omega
    clear ho hb
    by_cases hlt : k < l.length
    · obtain ⟨a, ha⟩ : ∃ a, l[k]? = some a := ⟨_, List.getElem?_eq_getElem hlt⟩
      obtain ⟨b, off, hA, hcs⟩ := (HL.out.below (W1b.out.trans (HB.out.mono W1b.out.size)) (Nat.le_refl _)).2.2 (by omega)
      obtain ⟨e1, e2, e3⟩ := hcs k a ha
      clear hcs
      subst hA
      have i0' : (0 : Int) ≤ (k : Int) := by omega
      have i1' : (k : Int) < (l.length : Int) := by omega
      have kz : IntKind.i64.wrap ((k : Int) + 1) = (k : Int) + 1 := by rw [IntKind.wrap_i64] <;> omega
      by_cases hq1 : a.u = u
      · have hq2 : True := trivial
        have h1e : (a.u == u) = true := by simpa using hq1
        have h1n : (a.u != u) = false := by simpa using hq1
        have HN := Lib.hid (kept_drop (p := ends ⟨12, u, v, x⟩) ha (show ends ⟨12, u, v, x⟩ a = true from decide_eq_true (.inl hq1)))
        clear ha hq1 hq2
        go_wp2
        go_quiet (fail)
        go_wp2
        go_roundw
        case rel => exact ⟨k + 1, by omega, by go_num, by rw [HN.out]; exact OD.out _, BD.out _⟩
        case measure => simp [intOf]; omega
      · by_cases hq2 : a.v = u
        · have h1e : (a.u == u) = false := by simpa using hq1
          have h1n : (a.u != u) = true := by simpa using hq1
          have h2e : (a.v == u) = true := by simpa using hq2
          have h2n : (a.v != u) = false := by simpa using hq2
          have HN := Lib.hid (kept_drop (p := ends ⟨12, u, v, x⟩) ha (show ends ⟨12, u, v, x⟩ a = true from decide_eq_true (.inr hq2)))
          clear ha hq1 hq2
          go_wp2
          go_quiet (fail)
          go_wp2
          go_roundw
          case rel => exact ⟨k + 1, by omega, by go_num, by rw [HN.out]; exact OD.out _, BD.out _⟩
          case measure => simp [intOf]; omega
        · have h1e : (a.u == u) = false := by simpa using hq1
          have h1n : (a.u != u) = true := by simpa using hq1
          have h2e : (a.v == u) = false := by simpa using hq2
          have h2n : (a.v != u) = true := by simpa using hq2
          have HN := Lib.hid (kept_keep (p := ends ⟨12, u, v, x⟩) ha (show ends ⟨12, u, v, x⟩ a = false from by unfold ends; simp [hq1, hq2]))
          clear ha hq1 hq2
          generalize kept (l.take k) (ends ⟨12, u, v, x⟩) = cu at *
          go_wp2
          go_quiet (fail)
          go_wp2_with (
            at_builtin
            refine wpList_app60 rfl (.tmp 107) (.tmp 112) rfl W1.heap.size cu T0 tc wr.heap.size _ a rfl rfl ((OD.out _).alloc _) rfl (row_at _ _ _ (ZD.out _)) m1 ((BD.out _).alloc (BD.out _).size _).size ?_
            intro A5 c5 w5 hown5 hb5
            have HO5 := Lib.hid hown5
            have HB5 := Lib.hid (((BD.out _).alloc (BD.out _).size _).trans hb5)
            clear hown5 hb5)
          go_roundw
          case rel => exact ⟨k + 1, by omega, by go_num, by rw [HN.out]; simpa using HO5.out, HB5.out⟩
          case measure => simp [intOf]; omega
    · obtain rfl : k = l.length := by omega
      have e := Lib.hid (List.take_length (l := l))
      rw [e.out] at HO ⊢
      have hz := (after3 (k := 12) (u := u) (v := v) (x := x) (w := w) wr (by rw [hW1]; exact HB.out))
      have HZ' := Lib.hid hz.1
      have HBk := Lib.hid hz.2.2
      obtain ⟨z1, z2, z3, z4, z5, f1, f2, f3, f4, f5⟩ := hz.1
      clear hz
      go_wp2
      (try simp only [Exit.inBlock, Exit.then])
      exact rdo_fin wr T0 none tc 0 (w.heap.size + 1) 0 _ 0 0 [] (by rw [HG.out]; rfl) rfl rfl HZ'.out (Nat.le_succ _) HBk.out (by rw [HG.out]; exact own_arcs (by have := m1; rw [e.out] at this; omega) FN.out HO.out) HAn.out (sl_nil _ _) (.inr (fun p hp => Nat.le_trans W1b.out.size (own_fr HO.out p hp)))

set_option maxHeartbeats 2000000 in
theorem rdo_15 (A : Option Addr) (c n : Nat) (l : List Arc) (u v x : Int) (w : World) (hn : n = l.length) (hl : Arcs w A l) (h40 : l.length ≤ 999) (hu : isV u = true) (hv : isV v = true) (hi : inB l u = true) (hj : inB l v = true) : Calls Tryz.prog 15 #[.slice A n c, .agg #[.int .i64 15, .int .i64 u, .int .i64 v, .int .u64 x]] w (DoPostF A l ⟨15, u, v, x⟩ w) := by
  have HH := heads A c n l 15 u v x w hn hl
  subst hn
  have HU := HH.is u
  have HV := Lib.hid (HH.is v)
  have HI := HH.inn u
  have HJ := HH.inn v
  have HS := HH.has
  clear HH
  have hq : keysB ⟨15, u, v, x⟩ = true := by unfold keysB; simp [hu, hv, edgeKind]
  have HG := Lib.hid (show doG l ⟨15, u, v, x⟩ = kept l (isE ⟨15, u, v, x⟩) by unfold doG both; simp [hq, hi, hj])
  have HAn := Lib.hid (show doA l ⟨15, u, v, x⟩ = ⟨0, false, 0, 0, []⟩ by unfold doA both; simp [hq, hi, hj])
  have HL := Lib.hid hl
  have T := Lib.hid (@after3 w 15 u v x)
  have FN := Lib.hid (fun a (h : a ∈ kept l (isE ⟨15, u, v, x⟩)) => hl.2.1 a (kept_mem h))
  rw [hu] at HU
  have HU := Lib.hid HU
  have HV0 := HV.out
  rw [hv] at HV0
  have HV := Lib.hid HV0
  clear HV0
  rw [hi] at HI
  rw [hj] at HJ
  have HI := Lib.hid HI
  have HJ := Lib.hid HJ
  have HS := Lib.hid HS
  clear hl hq hu hv hi hj
  go_enter Tryz.func15, Tryz.ntmps15
  go_wp2_with (first
    | (go_at_call 18; ((with_reducible refine (HU.out).mono ?_); rintro e w' ⟨rfl, rfl⟩))
    | (go_at_call 18; ((with_reducible refine (HV.out).mono ?_); rintro e w' ⟨rfl, rfl⟩))
    | (go_at_call 19; ((with_reducible refine (HI.out).mono ?_); rintro e w' ⟨rfl, rfl⟩))
    | (go_at_call 19; ((with_reducible refine (HJ.out).mono ?_); rintro e w' ⟨rfl, rfl⟩))
    | (go_at_call 31; ((with_reducible refine (HS.out).mono ?_); rintro e w' ⟨rfl, rfl⟩)))
  have W1b := Lib.hid (w2_ok w 15 u v x).2.2
  obtain ⟨⟨q0, q1, q2, q3⟩, _, _⟩ := w2_ok w 15 u v x
  generalize hW1 : w2 w 15 u v x = W1 at *
  go_loopw [13, 15] (fun y iv wr => ∃ k : Nat, k ≤ l.length ∧ iv = .int .i64 k ∧ wr.ownsRow W1.heap.size 60 3 y (kept (l.take k) (isE ⟨15, u, v, x⟩)).length (flat (kept (l.take k) (isE ⟨15, u, v, x⟩))) ∧ Below W1.heap.size W1 wr) (fun _ iv _ => l.length - (intOf iv).toNat)
  case atStart => exact ⟨0, Nat.zero_le _, rfl, World.ownsRow_nil _ _ _ _, Below.refl _ _⟩
  case round =>
    obtain ⟨k, hk, rfl, ho, hb⟩ := hrel
    obtain ⟨T0, tc, hT⟩ := own_any60 ho
    subst hT
    have BD : Hid (∀ q, Below W1.heap.size W1 (wr.drewN q)) := Lib.hid fun q => below_drewN' hb q
    have OD : Hid (∀ q, (wr.drewN q).ownsRow W1.heap.size 60 3 (.slice T0 (kept (l.take k) (isE ⟨15, u, v, x⟩)).length tc) (kept (l.take k) (isE ⟨15, u, v, x⟩)).length (flat (kept (l.take k) (isE ⟨15, u, v, x⟩)))) := Lib.hid fun q => own_drewN ho q
    have ZD : Hid (∀ q, (wr.drewN q).heap.size = wr.heap.size) := Lib.hid fun q => by rw [drewN_heap]
    have HO := Lib.hid ho
    have HB := Lib.hid hb
    have c0 := cellL' q0 hb
    have c1 := cellL' q1 hb
    have c2 := cellL' q2 hb
    have c3 := cellL' q3 hb
    have m1 : (kept (l.take k) (isE ⟨15, u, v, x⟩)).length ≤ 100000 := by have := kept_le (l.take k) (isE ⟨15, u, v, x⟩); rw [List.length_take] at this; omega
    clear ho hb
    by_cases hlt : k < l.length
    · obtain ⟨a, ha⟩ : ∃ a, l[k]? = some a := ⟨_, List.getElem?_eq_getElem hlt⟩
      obtain ⟨b, off, hA, hcs⟩ := (HL.out.below (W1b.out.trans (HB.out.mono W1b.out.size)) (Nat.le_refl _)).2.2 (by omega)
      obtain ⟨e1, e2, e3⟩ := hcs k a ha
      clear hcs
      subst hA
      have i0' : (0 : Int) ≤ (k : Int) := by omega
      have i1' : (k : Int) < (l.length : Int) := by omega
      have kz : IntKind.i64.wrap ((k : Int) + 1) = (k : Int) + 1 := by rw [IntKind.wrap_i64] <;> omega
      by_cases hq1 : a.u = u
      · by_cases hq2 : a.v = v
        · have h1e : (a.u == u) = true := by simpa using hq1
          have h1n : (a.u != u) = false := by simpa using hq1
          have h2e : (a.v == v) = true := by simpa using hq2
          have h2n : (a.v != v) = false := by simpa using hq2
          have HN := Lib.hid (kept_drop (p := isE ⟨15, u, v, x⟩) ha (show isE ⟨15, u, v, x⟩ a = true from decide_eq_true ⟨hq1, hq2⟩))
          clear ha hq1 hq2
          go_wp2
          go_quiet (fail)
          go_wp2
          go_roundw
          case rel => exact ⟨k + 1, by omega, by go_num, by rw [HN.out]; exact OD.out _, BD.out _⟩
          case measure => simp [intOf]; omega
        · have h1e : (a.u == u) = true := by simpa using hq1
          have h1n : (a.u != u) = false := by simpa using hq1
          have h2e : (a.v == v) = false := by simpa using hq2
          have h2n : (a.v != v) = true := by simpa using hq2
          have HN := Lib.hid (kept_keep (p := isE ⟨15, u, v, x⟩) ha (show isE ⟨15, u, v, x⟩ a = false from by unfold isE; simp [hq2]))
          clear ha hq1 hq2
          generalize kept (l.take k) (isE ⟨15, u, v, x⟩) = cu at *
          go_wp2
          go_quiet (fail)
          go_wp2_with (
            at_builtin
            refine wpList_app60 rfl (.tmp 185) (.tmp 190) rfl W1.heap.size cu T0 tc wr.heap.size _ a rfl rfl ((OD.out _).alloc _) rfl (row_at _ _ _ (ZD.out _)) m1 ((BD.out _).alloc (BD.out _).size _).size ?_
            intro A5 c5 w5 hown5 hb5
            have HO5 := Lib.hid hown5
            have HB5 := Lib.hid (((BD.out _).alloc (BD.out _).size _).trans hb5)
            clear hown5 hb5)
          go_roundw
          case rel => exact ⟨k + 1, by omega, by go_num, by rw [HN.out]; simpa using HO5.out, HB5.out⟩
          case measure => simp [intOf]; omega
      · have hq2 : True := trivial
        have h1e : (a.u == u) = false := by simpa using hq1
        have h1n : (a.u != u) = true := by simpa using hq1
        have HN := Lib.hid (kept_keep (p := isE ⟨15, u, v, x⟩) ha (show isE ⟨15, u, v, x⟩ a = false from by unfold isE; simp [hq1]))
        clear ha hq1 hq2
        generalize kept (l.take k) (isE ⟨15, u, v, x⟩) = cu at *
        go_wp2
        go_quiet (fail)
        go_wp2_with (
          at_builtin
          refine wpList_app60 rfl (.tmp 185) (.tmp 190) rfl W1.heap.size cu T0 tc wr.heap.size _ a rfl rfl ((OD.out _).alloc _) rfl (row_at _ _ _ (ZD.out _)) m1 ((BD.out _).alloc (BD.out _).size _).size ?_
          intro A5 c5 w5 hown5 hb5
          have HO5 := Lib.hid hown5
          have HB5 := Lib.hid (((BD.out _).alloc (BD.out _).size _).trans hb5)
          clear hown5 hb5)
        go_roundw
        case rel => exact ⟨k + 1, by omega, by go_num, by rw [HN.out]; simpa using HO5.out, HB5.out⟩
        case measure => simp [intOf]; omega
    · obtain rfl : k = l.length := by omega
      have e := Lib.hid (List.take_length (l := l))
      rw [e.out] at HO ⊢
      have hz := (after3 (k := 15) (u := u) (v := v) (x := x) (w := w) wr (by rw [hW1]; exact HB.out))
      have HZ' := Lib.hid hz.1
      have HBk := Lib.hid hz.2.2
      obtain ⟨z1, z2, z3, z4, z5, f1, f2, f3, f4, f5⟩ := hz.1
      clear hz
      go_wp2
      (try simp only [Exit.inBlock, Exit.then])
      exact rdo_fin wr T0 none tc 0 (w.heap.size + 1) 0 _ 0 0 [] (by rw [HG.out]; rfl) rfl rfl HZ'.out (Nat.le_succ _) HBk.out (by rw [HG.out]; exact own_arcs (by have := m1; rw [e.out] at this; omega) FN.out HO.out) HAn.out (sl_nil _ _) (.inr (fun p hp => Nat.le_trans W1b.out.size (own_fr HO.out p hp)))
theorem refDoF_any (A : Option Addr) (c n : Nat) (l : List Arc) (o : Op) (w : World) (hn : n = l.length) (hl : Arcs w A l) (hs : Rises l) (h40 : l.length ≤ 999) (hk : 11 ≤ o.k ∧ o.k ≤ 16) (hu : isV o.u = true) (hv : isV o.v = true) (hx0 : 0 ≤ o.w) (hx1 : o.w < 18446744073709551616) :
    Calls Tryz.prog 15 #[.slice A n c, .agg #[.int .i64 o.k, .int .i64 o.u, .int .i64 o.v, .int .u64 o.w]] w (DoPostF A l o w) := by
  obtain ⟨k, u, v, x⟩ := o
  simp only at hk hu hv hx0 hx1
  show Calls Tryz.prog 15 #[.slice A n c, .agg #[.int .i64 k, .int .i64 u, .int .i64 v, .int .u64 x]] w _
  have : k = 11 ∨ k = 12 ∨ k = 13 ∨ k = 14 ∨ k = 15 ∨ k = 16 := by omega
  rcases this with rfl | rfl | rfl | rfl | rfl | rfl
  · cases hi : inB l u
    · exact rdo_11n A c n l u v x w hn hl hs h40 hu hi
    · exact rdo_11y A c n l u v x w hn hl hu hi
  · exact rdo_12 A c n l u v x w hn hl h40 hu
  · exact rdo_13 A c n l u v x w hn hl hu
  · cases hi : inB l u
    · exact rdo_14nu A c n l u v x w hn hl hu hv hi
    cases hj : inB l v
    · exact rdo_14nv A c n l u v x w hn hl hu hv hi hj
    cases hb : hasB l u v
    · exact rdo_14n A c n l u v x w hn hl hs h40 hu hv hx0 hx1 hi hj hb
    · exact rdo_14y A c n l u v x w hn hl hu hv hi hj hb
  · cases hi : inB l u
    · exact rdo_15nu A c n l u v x w hn hl hu hv hi
    cases hj : inB l v
    · exact rdo_15nv A c n l u v x w hn hl hu hv hi hj
    · exact rdo_15 A c n l u v x w hn hl h40 hu hv hi hj
  · exact rdo_16 A c n l u v x w hn hl hu hv
end Go.Proofs.YtpdfmfkoopdfgaaGreatDoor.Gr.F
