/- GRref, GLaw, GLaw2. -/
import Derived.Test.YtpdfmfkoopdfgaaGreatDoorB17
set_option linter.unusedVariables false
set_option linter.unusedSimpArgs false
section
namespace Go.Proofs.YtpdfmfkoopdfgaaGreatDoor.Gr
set_option maxRecDepth 100000
open Go.RowKit Aid

/-- A row is one that may be. -/
def RowOk (l : List Arc) (a : Arc) : Prop := isV a.u = true ∧ (a.v = -1 → a.w = 0) ∧ (a.v ≠ -1 → isV a.v = true) ∧ inB l a.u = true ∧ (a.v ≠ -1 → inB l a.v = true)
def OkAt (l : List Arc) (j : Nat) : Prop := ∀ a, l[j]? = some a → (∀ p, 0 < j → l[j - 1]? = some p → Lt p a) ∧ RowOk l a
def RightP (l : List Arc) : Prop := ∀ j, OkAt l j
noncomputable def rightB (l : List Arc) : Bool := by classical exact decide (RightP l)
theorem rightB_t {l : List Arc} (h : RightP l) : rightB l = true := by unfold rightB; simpa using h
theorem rightB_f {l : List Arc} (h : ¬ RightP l) : rightB l = false := by unfold rightB; simpa using h
theorem right_of {l : List Arc} (h : rightB l = true) : RightP l := by unfold rightB at h; simpa using h
theorem not_order {l : List Arc} {j : Nat} {p a : Arc} (hj : 0 < j) (ha : l[j]? = some a) (hp : l[j - 1]? = some p) (h : ¬ Lt p a) : rightB l = false := rightB_f fun r => h ((r j a ha).1 p hj hp)
theorem not_row {l : List Arc} {j : Nat} {a : Arc} (ha : l[j]? = some a) (h : ¬ RowOk l a) : rightB l = false := rightB_f fun r => h (r j a ha).2
theorem ok_first {l : List Arc} {j : Nat} {a : Arc} (hj : j = 0) (ha : l[j]? = some a) (h : RowOk l a) : OkAt l j := fun b hb => by
  rw [ha] at hb; cases hb
  exact ⟨fun p hp => by omega, h⟩
theorem ok_next {l : List Arc} {j : Nat} {a p : Arc} (ha : l[j]? = some a) (hp : l[j - 1]? = some p) (hl : Lt p a) (h : RowOk l a) : OkAt l j := fun b hb => by
  rw [ha] at hb; cases hb
  exact ⟨fun q _ hq => by rw [hp] at hq; cases hq; exact hl, h⟩
theorem ok_past {l : List Arc} {i : Nat} (h : ∀ j, j < i → OkAt l j) (hi : l.length ≤ i) : rightB l = true := rightB_t fun j => by
  rcases Nat.lt_or_ge j i with hj | hj
  · exact h j hj
  · intro a ha
    have := (List.getElem?_eq_some_iff.1 ha).1
    omega
theorem ok_step {l : List Arc} {i : Nat} (h : ∀ j, j < i → OkAt l j) (h2 : OkAt l i) : ∀ j, j < i + 1 → OkAt l j := fun j hj => by
  rcases Nat.lt_or_ge j i with q | q
  · exact h j q
  · obtain rfl : j = i := by omega
    exact h2
set_option maxHeartbeats 16000000 in
set_option maxRecDepth 100000 in
theorem refRight_any (A : Option Addr) (c n : Nat) (l : List Arc) (w : World) (hn : n = l.length) (hl : Arcs w A l) (h40 : l.length ≤ 1000) :
    Calls Tryz.prog 9 #[.slice A n c] w fun e w' => e = .returned (.bool (rightB l)) ∧ Below w.heap.size w w' := by
  subst hn
  have HL := Lib.hid hl
  clear hl
  go_enter Tryz.func9, Tryz.ntmps9
  go_wp2
  go_loopw [3] (fun v wr => ∃ i : Nat, i ≤ l.length ∧ v = .int .i64 i ∧ (∀ j, j < i → OkAt l j) ∧ Below w.heap.size w wr) (fun v _ => l.length - (intOf v).toNat)
  case atStart => exact ⟨0, Nat.zero_le _, rfl, fun j hj => by omega, Below.refl _ _⟩
  case round =>
    obtain ⟨i, hi, rfl, hall, hb⟩ := hrel
    have HA := Lib.hid hall
    have HB := Lib.hid hb
    clear hall hb
    by_cases hlt : i < l.length
    · obtain ⟨⟨au, av, aw⟩, hal⟩ : ∃ a, l[i]? = some a := ⟨_, List.getElem?_eq_getElem hlt⟩
      have bA := Lib.hid ((Below.refl wr.heap.size wr).alloc (Nat.le_refl _) (.cells #[.int .i64 au, .int .i64 av, .int .u64 aw] 60))
      have HIn : Hid (∀ n y, Calls Tryz.prog 19 #[.slice A l.length c, .int .i64 y] ((wr.alloc (.cells #[.int .i64 au, .int .i64 av, .int .u64 aw] 60)).drewN n) fun e w' => e = .returned (.bool (inB l y)) ∧ (wr.alloc (.cells #[.int .i64 au, .int .i64 av, .int .u64 aw] 60)).drewN n = w') := Lib.hid (fun n y => refIn_any A c l.length l y _ rfl ((HL.out.below HB.out (Nat.le_refl _)).below (below_drewN bA.out n) (Nat.le_refl _)))
      have HBn : Hid (∀ n, Below w.heap.size w ((wr.alloc (.cells #[.int .i64 au, .int .i64 av, .int .u64 aw] 60)).drewN n)) := Lib.hid (fun n => HB.out.trans ((below_drewN bA.out n).mono HB.out.size))
      obtain ⟨b, off, hA, hcs⟩ := (HL.out.below HB.out (Nat.le_refl _)).2.2 (by omega)
      subst hA
      obtain ⟨c1, c2, c3⟩ := hcs i ⟨au, av, aw⟩ hal
      have HCS := Lib.hid hcs
      have HAL := Lib.hid hal
      clear hcs hal
      have i0 : (0 : Int) ≤ (i : Int) := by omega
      have i1 : (i : Int) < (l.length : Int) := by omega
      by_cases hi0 : i = 0
      · have hd : decide ((0 : Int) < (i : Int)) = false := by simp; omega
        have hd2 : decide (0 < i) = false := by simp; omega
        have HO := Lib.hid (ok_first hi0 HAL.out)
        clear HCS hi0
        cases hu : isV au
        · have HU : Hid (∀ W, Calls Tryz.prog 18 #[.int .i64 au] W fun e w' => e = .returned (.bool false) ∧ W = w') := Lib.hid (fun W => by have := is_any au W; rw [hu] at this; exact this)
          have HV : Hid (∀ W, Calls Tryz.prog 18 #[.int .i64 av] W fun e w' => e = .returned (.bool (isV av)) ∧ W = w') := Lib.hid (fun W => is_any av W)
          have hx := Lib.hid (not_row HAL.out (fun r => by have := r.1; rw [hu] at this; cases this))
          clear hu
          go_wp2
          go_quiet (fail)
          go_wp2_with (first
            | (go_at_call 18; ((with_reducible refine (HU.out _).mono ?_); rintro e w' ⟨rfl, rfl⟩))
            | (go_at_call 18; ((with_reducible refine (HV.out _).mono ?_); rintro e w' ⟨rfl, rfl⟩)))
          go_ret
          exact ⟨by rw [hx.out]; rfl, HBn.out _⟩
        · by_cases hv : av = -1
          · by_cases hw : aw = 0
            · cases hI : inB l au
              · have HU : Hid (∀ W, Calls Tryz.prog 18 #[.int .i64 au] W fun e w' => e = .returned (.bool true) ∧ W = w') := Lib.hid (fun W => by have := is_any au W; rw [hu] at this; exact this)
                have HV : Hid (∀ W, Calls Tryz.prog 18 #[.int .i64 av] W fun e w' => e = .returned (.bool (isV av)) ∧ W = w') := Lib.hid (fun W => is_any av W)
                have HIu : Hid (∀ n, Calls Tryz.prog 19 #[.slice (some ⟨b, off, none⟩) l.length c, .int .i64 au] ((wr.alloc (.cells #[.int .i64 au, .int .i64 av, .int .u64 aw] 60)).drewN n) fun e w' => e = .returned (.bool false) ∧ ((wr.alloc (.cells #[.int .i64 au, .int .i64 av, .int .u64 aw] 60)).drewN n) = w') := Lib.hid (fun n => by have := HIn.out n au; rw [hI] at this; exact this)
                have hx := Lib.hid (not_row HAL.out (fun r => by have := r.2.2.2.1; rw [hI] at this; cases this))
                clear hu hI
                subst hv
                subst hw
                go_wp2
                go_quiet (fail)
                go_wp2_with (first
                  | (go_at_call 18; ((with_reducible refine (HU.out _).mono ?_); rintro e w' ⟨rfl, rfl⟩))
                  | (go_at_call 18; ((with_reducible refine (HV.out _).mono ?_); rintro e w' ⟨rfl, rfl⟩))
                  | (go_at_call 19; ((with_reducible refine (HIu.out _).mono ?_); rintro e w' ⟨rfl, rfl⟩)))
                go_ret
                exact ⟨by rw [hx.out]; rfl, HBn.out _⟩
              · have HU : Hid (∀ W, Calls Tryz.prog 18 #[.int .i64 au] W fun e w' => e = .returned (.bool true) ∧ W = w') := Lib.hid (fun W => by have := is_any au W; rw [hu] at this; exact this)
                have HV : Hid (∀ W, Calls Tryz.prog 18 #[.int .i64 av] W fun e w' => e = .returned (.bool (isV av)) ∧ W = w') := Lib.hid (fun W => is_any av W)
                have HIu : Hid (∀ n, Calls Tryz.prog 19 #[.slice (some ⟨b, off, none⟩) l.length c, .int .i64 au] ((wr.alloc (.cells #[.int .i64 au, .int .i64 av, .int .u64 aw] 60)).drewN n) fun e w' => e = .returned (.bool true) ∧ ((wr.alloc (.cells #[.int .i64 au, .int .i64 av, .int .u64 aw] 60)).drewN n) = w') := Lib.hid (fun n => by have := HIn.out n au; rw [hI] at this; exact this)
                have hok := Lib.hid (HO.out ⟨hu, fun _ => hw, fun h => absurd hv h, hI, fun h => absurd hv h⟩)
                clear hu hI
                subst hv
                subst hw
                go_wp2
                go_quiet (fail)
                go_wp2_with (first
                  | (go_at_call 18; ((with_reducible refine (HU.out _).mono ?_); rintro e w' ⟨rfl, rfl⟩))
                  | (go_at_call 18; ((with_reducible refine (HV.out _).mono ?_); rintro e w' ⟨rfl, rfl⟩))
                  | (go_at_call 19; ((with_reducible refine (HIu.out _).mono ?_); rintro e w' ⟨rfl, rfl⟩)))
                first
                  | (refine ⟨⟨i + 1, by omega, by go_num, ok_step HA.out hok.out, HBn.out _⟩, by simp [intOf]; omega⟩)
                  | (go_roundw
                     case rel => exact ⟨i + 1, by omega, by go_num, ok_step HA.out hok.out, HBn.out _⟩
                     case measure => simp [intOf]; omega)
            · have hw1 : (aw == 0) = false := by simp [hw]
              have hw2 : ¬ aw = 0 := hw
              have HU : Hid (∀ W, Calls Tryz.prog 18 #[.int .i64 au] W fun e w' => e = .returned (.bool true) ∧ W = w') := Lib.hid (fun W => by have := is_any au W; rw [hu] at this; exact this)
              have HV : Hid (∀ W, Calls Tryz.prog 18 #[.int .i64 av] W fun e w' => e = .returned (.bool (isV av)) ∧ W = w') := Lib.hid (fun W => is_any av W)
              have hx := Lib.hid (not_row HAL.out (fun r => hw (r.2.1 hv)))
              clear hu
              subst hv
              go_wp2
              go_quiet (fail)
              go_wp2_with (first
                | (go_at_call 18; ((with_reducible refine (HU.out _).mono ?_); rintro e w' ⟨rfl, rfl⟩))
                | (go_at_call 18; ((with_reducible refine (HV.out _).mono ?_); rintro e w' ⟨rfl, rfl⟩)))
              go_ret
              exact ⟨by rw [hx.out]; rfl, HBn.out _⟩
          · cases hV : isV av
            · have hv1 : (av == -1) = false := by simp [hv]
              have HU : Hid (∀ W, Calls Tryz.prog 18 #[.int .i64 au] W fun e w' => e = .returned (.bool true) ∧ W = w') := Lib.hid (fun W => by have := is_any au W; rw [hu] at this; exact this)
              have HV : Hid (∀ W, Calls Tryz.prog 18 #[.int .i64 av] W fun e w' => e = .returned (.bool false) ∧ W = w') := Lib.hid (fun W => by have := is_any av W; rw [hV] at this; exact this)
              have hx := Lib.hid (not_row HAL.out (fun r => by have := r.2.2.1 hv; rw [hV] at this; cases this))
              clear hu hV
              go_wp2
              go_quiet (fail)
              go_wp2_with (first
                | (go_at_call 18; ((with_reducible refine (HU.out _).mono ?_); rintro e w' ⟨rfl, rfl⟩))
                | (go_at_call 18; ((with_reducible refine (HV.out _).mono ?_); rintro e w' ⟨rfl, rfl⟩)))
              go_ret
              exact ⟨by rw [hx.out]; rfl, HBn.out _⟩
            · cases hI : inB l au
              · cases hJ : inB l av
                · have hv1 : (av == -1) = false := by simp [hv]
                  have HU : Hid (∀ W, Calls Tryz.prog 18 #[.int .i64 au] W fun e w' => e = .returned (.bool true) ∧ W = w') := Lib.hid (fun W => by have := is_any au W; rw [hu] at this; exact this)
                  have HV : Hid (∀ W, Calls Tryz.prog 18 #[.int .i64 av] W fun e w' => e = .returned (.bool true) ∧ W = w') := Lib.hid (fun W => by have := is_any av W; rw [hV] at this; exact this)
                  have HIu : Hid (∀ n, Calls Tryz.prog 19 #[.slice (some ⟨b, off, none⟩) l.length c, .int .i64 au] ((wr.alloc (.cells #[.int .i64 au, .int .i64 av, .int .u64 aw] 60)).drewN n) fun e w' => e = .returned (.bool false) ∧ ((wr.alloc (.cells #[.int .i64 au, .int .i64 av, .int .u64 aw] 60)).drewN n) = w') := Lib.hid (fun n => by have := HIn.out n au; rw [hI] at this; exact this)
                  have HIv : Hid (∀ n, Calls Tryz.prog 19 #[.slice (some ⟨b, off, none⟩) l.length c, .int .i64 av] ((wr.alloc (.cells #[.int .i64 au, .int .i64 av, .int .u64 aw] 60)).drewN n) fun e w' => e = .returned (.bool false) ∧ ((wr.alloc (.cells #[.int .i64 au, .int .i64 av, .int .u64 aw] 60)).drewN n) = w') := Lib.hid (fun n => by have := HIn.out n av; rw [hJ] at this; exact this)
                  have hx := Lib.hid (not_row HAL.out (fun r => by have := r.2.2.2.1; rw [hI] at this; cases this))
                  clear hu hV hI hJ
                  go_wp2
                  go_quiet (fail)
                  go_wp2_with (first
                    | (go_at_call 18; ((with_reducible refine (HU.out _).mono ?_); rintro e w' ⟨rfl, rfl⟩))
                    | (go_at_call 18; ((with_reducible refine (HV.out _).mono ?_); rintro e w' ⟨rfl, rfl⟩))
                    | (go_at_call 19; ((with_reducible refine (HIu.out _).mono ?_); rintro e w' ⟨rfl, rfl⟩))
                    | (go_at_call 19; ((with_reducible refine (HIv.out _).mono ?_); rintro e w' ⟨rfl, rfl⟩)))
                  go_ret
                  exact ⟨by rw [hx.out]; rfl, HBn.out _⟩
                · have hv1 : (av == -1) = false := by simp [hv]
                  have HU : Hid (∀ W, Calls Tryz.prog 18 #[.int .i64 au] W fun e w' => e = .returned (.bool true) ∧ W = w') := Lib.hid (fun W => by have := is_any au W; rw [hu] at this; exact this)
                  have HV : Hid (∀ W, Calls Tryz.prog 18 #[.int .i64 av] W fun e w' => e = .returned (.bool true) ∧ W = w') := Lib.hid (fun W => by have := is_any av W; rw [hV] at this; exact this)
                  have HIu : Hid (∀ n, Calls Tryz.prog 19 #[.slice (some ⟨b, off, none⟩) l.length c, .int .i64 au] ((wr.alloc (.cells #[.int .i64 au, .int .i64 av, .int .u64 aw] 60)).drewN n) fun e w' => e = .returned (.bool false) ∧ ((wr.alloc (.cells #[.int .i64 au, .int .i64 av, .int .u64 aw] 60)).drewN n) = w') := Lib.hid (fun n => by have := HIn.out n au; rw [hI] at this; exact this)
                  have HIv : Hid (∀ n, Calls Tryz.prog 19 #[.slice (some ⟨b, off, none⟩) l.length c, .int .i64 av] ((wr.alloc (.cells #[.int .i64 au, .int .i64 av, .int .u64 aw] 60)).drewN n) fun e w' => e = .returned (.bool true) ∧ ((wr.alloc (.cells #[.int .i64 au, .int .i64 av, .int .u64 aw] 60)).drewN n) = w') := Lib.hid (fun n => by have := HIn.out n av; rw [hJ] at this; exact this)
                  have hx := Lib.hid (not_row HAL.out (fun r => by have := r.2.2.2.1; rw [hI] at this; cases this))
                  clear hu hV hI hJ
                  go_wp2
                  go_quiet (fail)
                  go_wp2_with (first
                    | (go_at_call 18; ((with_reducible refine (HU.out _).mono ?_); rintro e w' ⟨rfl, rfl⟩))
                    | (go_at_call 18; ((with_reducible refine (HV.out _).mono ?_); rintro e w' ⟨rfl, rfl⟩))
                    | (go_at_call 19; ((with_reducible refine (HIu.out _).mono ?_); rintro e w' ⟨rfl, rfl⟩))
                    | (go_at_call 19; ((with_reducible refine (HIv.out _).mono ?_); rintro e w' ⟨rfl, rfl⟩)))
                  go_ret
                  exact ⟨by rw [hx.out]; rfl, HBn.out _⟩
              · cases hJ : inB l av
                · have hv1 : (av == -1) = false := by simp [hv]
                  have HU : Hid (∀ W, Calls Tryz.prog 18 #[.int .i64 au] W fun e w' => e = .returned (.bool true) ∧ W = w') := Lib.hid (fun W => by have := is_any au W; rw [hu] at this; exact this)
                  have HV : Hid (∀ W, Calls Tryz.prog 18 #[.int .i64 av] W fun e w' => e = .returned (.bool true) ∧ W = w') := Lib.hid (fun W => by have := is_any av W; rw [hV] at this; exact this)
                  have HIu : Hid (∀ n, Calls Tryz.prog 19 #[.slice (some ⟨b, off, none⟩) l.length c, .int .i64 au] ((wr.alloc (.cells #[.int .i64 au, .int .i64 av, .int .u64 aw] 60)).drewN n) fun e w' => e = .returned (.bool true) ∧ ((wr.alloc (.cells #[.int .i64 au, .int .i64 av, .int .u64 aw] 60)).drewN n) = w') := Lib.hid (fun n => by have := HIn.out n au; rw [hI] at this; exact this)
                  have HIv : Hid (∀ n, Calls Tryz.prog 19 #[.slice (some ⟨b, off, none⟩) l.length c, .int .i64 av] ((wr.alloc (.cells #[.int .i64 au, .int .i64 av, .int .u64 aw] 60)).drewN n) fun e w' => e = .returned (.bool false) ∧ ((wr.alloc (.cells #[.int .i64 au, .int .i64 av, .int .u64 aw] 60)).drewN n) = w') := Lib.hid (fun n => by have := HIn.out n av; rw [hJ] at this; exact this)
                  have hx := Lib.hid (not_row HAL.out (fun r => by have := r.2.2.2.2 hv; rw [hJ] at this; cases this))
                  clear hu hV hI hJ
                  go_wp2
                  go_quiet (fail)
                  go_wp2_with (first
                    | (go_at_call 18; ((with_reducible refine (HU.out _).mono ?_); rintro e w' ⟨rfl, rfl⟩))
                    | (go_at_call 18; ((with_reducible refine (HV.out _).mono ?_); rintro e w' ⟨rfl, rfl⟩))
                    | (go_at_call 19; ((with_reducible refine (HIu.out _).mono ?_); rintro e w' ⟨rfl, rfl⟩))
                    | (go_at_call 19; ((with_reducible refine (HIv.out _).mono ?_); rintro e w' ⟨rfl, rfl⟩)))
                  go_ret
                  exact ⟨by rw [hx.out]; rfl, HBn.out _⟩
                · have hv1 : (av == -1) = false := by simp [hv]
                  have HU : Hid (∀ W, Calls Tryz.prog 18 #[.int .i64 au] W fun e w' => e = .returned (.bool true) ∧ W = w') := Lib.hid (fun W => by have := is_any au W; rw [hu] at this; exact this)
                  have HV : Hid (∀ W, Calls Tryz.prog 18 #[.int .i64 av] W fun e w' => e = .returned (.bool true) ∧ W = w') := Lib.hid (fun W => by have := is_any av W; rw [hV] at this; exact this)
                  have HIu : Hid (∀ n, Calls Tryz.prog 19 #[.slice (some ⟨b, off, none⟩) l.length c, .int .i64 au] ((wr.alloc (.cells #[.int .i64 au, .int .i64 av, .int .u64 aw] 60)).drewN n) fun e w' => e = .returned (.bool true) ∧ ((wr.alloc (.cells #[.int .i64 au, .int .i64 av, .int .u64 aw] 60)).drewN n) = w') := Lib.hid (fun n => by have := HIn.out n au; rw [hI] at this; exact this)
                  have HIv : Hid (∀ n, Calls Tryz.prog 19 #[.slice (some ⟨b, off, none⟩) l.length c, .int .i64 av] ((wr.alloc (.cells #[.int .i64 au, .int .i64 av, .int .u64 aw] 60)).drewN n) fun e w' => e = .returned (.bool true) ∧ ((wr.alloc (.cells #[.int .i64 au, .int .i64 av, .int .u64 aw] 60)).drewN n) = w') := Lib.hid (fun n => by have := HIn.out n av; rw [hJ] at this; exact this)
                  have hok := Lib.hid (HO.out ⟨hu, fun h => absurd h hv, fun _ => hV, hI, fun _ => hJ⟩)
                  clear hu hV hI hJ
                  go_wp2
                  go_quiet (fail)
                  go_wp2_with (first
                    | (go_at_call 18; ((with_reducible refine (HU.out _).mono ?_); rintro e w' ⟨rfl, rfl⟩))
                    | (go_at_call 18; ((with_reducible refine (HV.out _).mono ?_); rintro e w' ⟨rfl, rfl⟩))
                    | (go_at_call 19; ((with_reducible refine (HIu.out _).mono ?_); rintro e w' ⟨rfl, rfl⟩))
                    | (go_at_call 19; ((with_reducible refine (HIv.out _).mono ?_); rintro e w' ⟨rfl, rfl⟩)))
                  first
                    | (refine ⟨⟨i + 1, by omega, by go_num, ok_step HA.out hok.out, HBn.out _⟩, by simp [intOf]; omega⟩)
                    | (go_roundw
                       case rel => exact ⟨i + 1, by omega, by go_num, ok_step HA.out hok.out, HBn.out _⟩
                       case measure => simp [intOf]; omega)
      · obtain ⟨p, hp⟩ : ∃ p, l[i - 1]? = some p := ⟨_, List.getElem?_eq_getElem (by omega)⟩
        have hd : decide ((0 : Int) < (i : Int)) = true := by simp; omega
        have hd2 : decide (0 < i) = true := by simp; omega
        obtain ⟨d1, d2, d3⟩ := HCS.out (i - 1) p hp
        have blt := World.block_lt_of_cell? wr _ d1
        have p1 := (bA.out.cell (p := ⟨b, off + (i - 1) * 3, none⟩) blt).trans d1
        have p2 := (bA.out.cell (p := ⟨b, off + (i - 1) * 3 + 1, none⟩) blt).trans d2
        have HP := Lib.hid hp
        have n1 : IntKind.i64.wrap ((i : Int) - 1) = (i : Int) - 1 := by rw [IntKind.wrap_i64]; omega
        have n2 : ((i : Int) - 1).toNat = i - 1 := by omega
        have n3 : (0 : Int) ≤ (i : Int) - 1 := by omega
        have n4 : (i : Int) - 1 < (l.length : Int) := by omega
        clear HCS d1 d2 d3 hp
        by_cases o1 : au < p.u
        · have g1 : decide (au < p.u) = true := by simp [o1]
          have hx := Lib.hid (not_order (by omega) HAL.out HP.out (by unfold Lt; simp only; omega))
          clear o1
          go_wp2
          go_quiet (fail)
          go_wp2
          go_ret
          exact ⟨by rw [hx.out]; rfl, HBn.out _⟩
        · have g1 : decide (au < p.u) = false := by simp; omega
          by_cases o2 : p.u = au
          · have g2 : (p.u == au) = true := by simp [o2]
            by_cases o3 : av ≤ p.v
            · have g3 : decide (av ≤ p.v) = true := by simp [o3]
              have hx := Lib.hid (not_order (by omega) HAL.out HP.out (by unfold Lt; simp only; omega))
              clear o1 o2 o3
              go_wp2
              go_quiet (fail)
              go_wp2
              go_ret
              exact ⟨by rw [hx.out]; rfl, HBn.out _⟩
            · have g3 : decide (av ≤ p.v) = false := by simp; omega
              have HO := Lib.hid (ok_next HAL.out HP.out (by unfold Lt; simp only; omega))
              clear o1 o2 o3
              cases hu : isV au
              · have HU : Hid (∀ W, Calls Tryz.prog 18 #[.int .i64 au] W fun e w' => e = .returned (.bool false) ∧ W = w') := Lib.hid (fun W => by have := is_any au W; rw [hu] at this; exact this)
                have HV : Hid (∀ W, Calls Tryz.prog 18 #[.int .i64 av] W fun e w' => e = .returned (.bool (isV av)) ∧ W = w') := Lib.hid (fun W => is_any av W)
                have hx := Lib.hid (not_row HAL.out (fun r => by have := r.1; rw [hu] at this; cases this))
                clear hu
                go_wp2
                go_quiet (fail)
                go_wp2_with (first
                  | (go_at_call 18; ((with_reducible refine (HU.out _).mono ?_); rintro e w' ⟨rfl, rfl⟩))
                  | (go_at_call 18; ((with_reducible refine (HV.out _).mono ?_); rintro e w' ⟨rfl, rfl⟩)))
                go_ret
                exact ⟨by rw [hx.out]; rfl, HBn.out _⟩
              · by_cases hv : av = -1
                · by_cases hw : aw = 0
                  · cases hI : inB l au
                    · have HU : Hid (∀ W, Calls Tryz.prog 18 #[.int .i64 au] W fun e w' => e = .returned (.bool true) ∧ W = w') := Lib.hid (fun W => by have := is_any au W; rw [hu] at this; exact this)
                      have HV : Hid (∀ W, Calls Tryz.prog 18 #[.int .i64 av] W fun e w' => e = .returned (.bool (isV av)) ∧ W = w') := Lib.hid (fun W => is_any av W)
                      have HIu : Hid (∀ n, Calls Tryz.prog 19 #[.slice (some ⟨b, off, none⟩) l.length c, .int .i64 au] ((wr.alloc (.cells #[.int .i64 au, .int .i64 av, .int .u64 aw] 60)).drewN n) fun e w' => e = .returned (.bool false) ∧ ((wr.alloc (.cells #[.int .i64 au, .int .i64 av, .int .u64 aw] 60)).drewN n) = w') := Lib.hid (fun n => by have := HIn.out n au; rw [hI] at this; exact this)
                      have hx := Lib.hid (not_row HAL.out (fun r => by have := r.2.2.2.1; rw [hI] at this; cases this))
                      clear hu hI
                      subst hv
                      subst hw
                      go_wp2
                      go_quiet (fail)
                      go_wp2_with (first
                        | (go_at_call 18; ((with_reducible refine (HU.out _).mono ?_); rintro e w' ⟨rfl, rfl⟩))
                        | (go_at_call 18; ((with_reducible refine (HV.out _).mono ?_); rintro e w' ⟨rfl, rfl⟩))
                        | (go_at_call 19; ((with_reducible refine (HIu.out _).mono ?_); rintro e w' ⟨rfl, rfl⟩)))
                      go_ret
                      exact ⟨by rw [hx.out]; rfl, HBn.out _⟩
                    · have HU : Hid (∀ W, Calls Tryz.prog 18 #[.int .i64 au] W fun e w' => e = .returned (.bool true) ∧ W = w') := Lib.hid (fun W => by have := is_any au W; rw [hu] at this; exact this)
                      have HV : Hid (∀ W, Calls Tryz.prog 18 #[.int .i64 av] W fun e w' => e = .returned (.bool (isV av)) ∧ W = w') := Lib.hid (fun W => is_any av W)
                      have HIu : Hid (∀ n, Calls Tryz.prog 19 #[.slice (some ⟨b, off, none⟩) l.length c, .int .i64 au] ((wr.alloc (.cells #[.int .i64 au, .int .i64 av, .int .u64 aw] 60)).drewN n) fun e w' => e = .returned (.bool true) ∧ ((wr.alloc (.cells #[.int .i64 au, .int .i64 av, .int .u64 aw] 60)).drewN n) = w') := Lib.hid (fun n => by have := HIn.out n au; rw [hI] at this; exact this)
                      have hok := Lib.hid (HO.out ⟨hu, fun _ => hw, fun h => absurd hv h, hI, fun h => absurd hv h⟩)
                      clear hu hI
                      subst hv
                      subst hw
                      go_wp2
                      go_quiet (fail)
                      go_wp2_with (first
                        | (go_at_call 18; ((with_reducible refine (HU.out _).mono ?_); rintro e w' ⟨rfl, rfl⟩))
                        | (go_at_call 18; ((with_reducible refine (HV.out _).mono ?_); rintro e w' ⟨rfl, rfl⟩))
                        | (go_at_call 19; ((with_reducible refine (HIu.out _).mono ?_); rintro e w' ⟨rfl, rfl⟩)))
                      first
                        | (refine ⟨⟨i + 1, by omega, by go_num, ok_step HA.out hok.out, HBn.out _⟩, by simp [intOf]; omega⟩)
                        | (go_roundw
                           case rel => exact ⟨i + 1, by omega, by go_num, ok_step HA.out hok.out, HBn.out _⟩
                           case measure => simp [intOf]; omega)
                  · have hw1 : (aw == 0) = false := by simp [hw]
                    have hw2 : ¬ aw = 0 := hw
                    have HU : Hid (∀ W, Calls Tryz.prog 18 #[.int .i64 au] W fun e w' => e = .returned (.bool true) ∧ W = w') := Lib.hid (fun W => by have := is_any au W; rw [hu] at this; exact this)
                    have HV : Hid (∀ W, Calls Tryz.prog 18 #[.int .i64 av] W fun e w' => e = .returned (.bool (isV av)) ∧ W = w') := Lib.hid (fun W => is_any av W)
                    have hx := Lib.hid (not_row HAL.out (fun r => hw (r.2.1 hv)))
                    clear hu
                    subst hv
                    go_wp2
                    go_quiet (fail)
                    go_wp2_with (first
                      | (go_at_call 18; ((with_reducible refine (HU.out _).mono ?_); rintro e w' ⟨rfl, rfl⟩))
                      | (go_at_call 18; ((with_reducible refine (HV.out _).mono ?_); rintro e w' ⟨rfl, rfl⟩)))
                    go_ret
                    exact ⟨by rw [hx.out]; rfl, HBn.out _⟩
                · cases hV : isV av
                  · have hv1 : (av == -1) = false := by simp [hv]
                    have HU : Hid (∀ W, Calls Tryz.prog 18 #[.int .i64 au] W fun e w' => e = .returned (.bool true) ∧ W = w') := Lib.hid (fun W => by have := is_any au W; rw [hu] at this; exact this)
                    have HV : Hid (∀ W, Calls Tryz.prog 18 #[.int .i64 av] W fun e w' => e = .returned (.bool false) ∧ W = w') := Lib.hid (fun W => by have := is_any av W; rw [hV] at this; exact this)
                    have hx := Lib.hid (not_row HAL.out (fun r => by have := r.2.2.1 hv; rw [hV] at this; cases this))
                    clear hu hV
                    go_wp2
                    go_quiet (fail)
                    go_wp2_with (first
                      | (go_at_call 18; ((with_reducible refine (HU.out _).mono ?_); rintro e w' ⟨rfl, rfl⟩))
                      | (go_at_call 18; ((with_reducible refine (HV.out _).mono ?_); rintro e w' ⟨rfl, rfl⟩)))
                    go_ret
                    exact ⟨by rw [hx.out]; rfl, HBn.out _⟩
                  · cases hI : inB l au
                    · cases hJ : inB l av
                      · have hv1 : (av == -1) = false := by simp [hv]
                        have HU : Hid (∀ W, Calls Tryz.prog 18 #[.int .i64 au] W fun e w' => e = .returned (.bool true) ∧ W = w') := Lib.hid (fun W => by have := is_any au W; rw [hu] at this; exact this)
                        have HV : Hid (∀ W, Calls Tryz.prog 18 #[.int .i64 av] W fun e w' => e = .returned (.bool true) ∧ W = w') := Lib.hid (fun W => by have := is_any av W; rw [hV] at this; exact this)
                        have HIu : Hid (∀ n, Calls Tryz.prog 19 #[.slice (some ⟨b, off, none⟩) l.length c, .int .i64 au] ((wr.alloc (.cells #[.int .i64 au, .int .i64 av, .int .u64 aw] 60)).drewN n) fun e w' => e = .returned (.bool false) ∧ ((wr.alloc (.cells #[.int .i64 au, .int .i64 av, .int .u64 aw] 60)).drewN n) = w') := Lib.hid (fun n => by have := HIn.out n au; rw [hI] at this; exact this)
                        have HIv : Hid (∀ n, Calls Tryz.prog 19 #[.slice (some ⟨b, off, none⟩) l.length c, .int .i64 av] ((wr.alloc (.cells #[.int .i64 au, .int .i64 av, .int .u64 aw] 60)).drewN n) fun e w' => e = .returned (.bool false) ∧ ((wr.alloc (.cells #[.int .i64 au, .int .i64 av, .int .u64 aw] 60)).drewN n) = w') := Lib.hid (fun n => by have := HIn.out n av; rw [hJ] at this; exact this)
                        have hx := Lib.hid (not_row HAL.out (fun r => by have := r.2.2.2.1; rw [hI] at this; cases this))
                        clear hu hV hI hJ
                        go_wp2
                        go_quiet (fail)
                        go_wp2_with (first
                          | (go_at_call 18; ((with_reducible refine (HU.out _).mono ?_); rintro e w' ⟨rfl, rfl⟩))
                          | (go_at_call 18; ((with_reducible refine (HV.out _).mono ?_); rintro e w' ⟨rfl, rfl⟩))
                          | (go_at_call 19; ((with_reducible refine (HIu.out _).mono ?_); rintro e w' ⟨rfl, rfl⟩))
                          | (go_at_call 19; ((with_reducible refine (HIv.out _).mono ?_); rintro e w' ⟨rfl, rfl⟩)))
                        go_ret
                        exact ⟨by rw [hx.out]; rfl, HBn.out _⟩
                      · have hv1 : (av == -1) = false := by simp [hv]
                        have HU : Hid (∀ W, Calls Tryz.prog 18 #[.int .i64 au] W fun e w' => e = .returned (.bool true) ∧ W = w') := Lib.hid (fun W => by have := is_any au W; rw [hu] at this; exact this)
                        have HV : Hid (∀ W, Calls Tryz.prog 18 #[.int .i64 av] W fun e w' => e = .returned (.bool true) ∧ W = w') := Lib.hid (fun W => by have := is_any av W; rw [hV] at this; exact this)
                        have HIu : Hid (∀ n, Calls Tryz.prog 19 #[.slice (some ⟨b, off, none⟩) l.length c, .int .i64 au] ((wr.alloc (.cells #[.int .i64 au, .int .i64 av, .int .u64 aw] 60)).drewN n) fun e w' => e = .returned (.bool false) ∧ ((wr.alloc (.cells #[.int .i64 au, .int .i64 av, .int .u64 aw] 60)).drewN n) = w') := Lib.hid (fun n => by have := HIn.out n au; rw [hI] at this; exact this)
                        have HIv : Hid (∀ n, Calls Tryz.prog 19 #[.slice (some ⟨b, off, none⟩) l.length c, .int .i64 av] ((wr.alloc (.cells #[.int .i64 au, .int .i64 av, .int .u64 aw] 60)).drewN n) fun e w' => e = .returned (.bool true) ∧ ((wr.alloc (.cells #[.int .i64 au, .int .i64 av, .int .u64 aw] 60)).drewN n) = w') := Lib.hid (fun n => by have := HIn.out n av; rw [hJ] at this; exact this)
                        have hx := Lib.hid (not_row HAL.out (fun r => by have := r.2.2.2.1; rw [hI] at this; cases this))
                        clear hu hV hI hJ
                        go_wp2
                        go_quiet (fail)
                        go_wp2_with (first
                          | (go_at_call 18; ((with_reducible refine (HU.out _).mono ?_); rintro e w' ⟨rfl, rfl⟩))
                          | (go_at_call 18; ((with_reducible refine (HV.out _).mono ?_); rintro e w' ⟨rfl, rfl⟩))
                          | (go_at_call 19; ((with_reducible refine (HIu.out _).mono ?_); rintro e w' ⟨rfl, rfl⟩))
                          | (go_at_call 19; ((with_reducible refine (HIv.out _).mono ?_); rintro e w' ⟨rfl, rfl⟩)))
                        go_ret
                        exact ⟨by rw [hx.out]; rfl, HBn.out _⟩
                    · cases hJ : inB l av
                      · have hv1 : (av == -1) = false := by simp [hv]
                        have HU : Hid (∀ W, Calls Tryz.prog 18 #[.int .i64 au] W fun e w' => e = .returned (.bool true) ∧ W = w') := Lib.hid (fun W => by have := is_any au W; rw [hu] at this; exact this)
                        have HV : Hid (∀ W, Calls Tryz.prog 18 #[.int .i64 av] W fun e w' => e = .returned (.bool true) ∧ W = w') := Lib.hid (fun W => by have := is_any av W; rw [hV] at this; exact this)
                        have HIu : Hid (∀ n, Calls Tryz.prog 19 #[.slice (some ⟨b, off, none⟩) l.length c, .int .i64 au] ((wr.alloc (.cells #[.int .i64 au, .int .i64 av, .int .u64 aw] 60)).drewN n) fun e w' => e = .returned (.bool true) ∧ ((wr.alloc (.cells #[.int .i64 au, .int .i64 av, .int .u64 aw] 60)).drewN n) = w') := Lib.hid (fun n => by have := HIn.out n au; rw [hI] at this; exact this)
                        have HIv : Hid (∀ n, Calls Tryz.prog 19 #[.slice (some ⟨b, off, none⟩) l.length c, .int .i64 av] ((wr.alloc (.cells #[.int .i64 au, .int .i64 av, .int .u64 aw] 60)).drewN n) fun e w' => e = .returned (.bool false) ∧ ((wr.alloc (.cells #[.int .i64 au, .int .i64 av, .int .u64 aw] 60)).drewN n) = w') := Lib.hid (fun n => by have := HIn.out n av; rw [hJ] at this; exact this)
                        have hx := Lib.hid (not_row HAL.out (fun r => by have := r.2.2.2.2 hv; rw [hJ] at this; cases this))
                        clear hu hV hI hJ
                        go_wp2
                        go_quiet (fail)
                        go_wp2_with (first
                          | (go_at_call 18; ((with_reducible refine (HU.out _).mono ?_); rintro e w' ⟨rfl, rfl⟩))
                          | (go_at_call 18; ((with_reducible refine (HV.out _).mono ?_); rintro e w' ⟨rfl, rfl⟩))
                          | (go_at_call 19; ((with_reducible refine (HIu.out _).mono ?_); rintro e w' ⟨rfl, rfl⟩))
                          | (go_at_call 19; ((with_reducible refine (HIv.out _).mono ?_); rintro e w' ⟨rfl, rfl⟩)))
                        go_ret
                        exact ⟨by rw [hx.out]; rfl, HBn.out _⟩
                      · have hv1 : (av == -1) = false := by simp [hv]
                        have HU : Hid (∀ W, Calls Tryz.prog 18 #[.int .i64 au] W fun e w' => e = .returned (.bool true) ∧ W = w') := Lib.hid (fun W => by have := is_any au W; rw [hu] at this; exact this)
                        have HV : Hid (∀ W, Calls Tryz.prog 18 #[.int .i64 av] W fun e w' => e = .returned (.bool true) ∧ W = w') := Lib.hid (fun W => by have := is_any av W; rw [hV] at this; exact this)
                        have HIu : Hid (∀ n, Calls Tryz.prog 19 #[.slice (some ⟨b, off, none⟩) l.length c, .int .i64 au] ((wr.alloc (.cells #[.int .i64 au, .int .i64 av, .int .u64 aw] 60)).drewN n) fun e w' => e = .returned (.bool true) ∧ ((wr.alloc (.cells #[.int .i64 au, .int .i64 av, .int .u64 aw] 60)).drewN n) = w') := Lib.hid (fun n => by have := HIn.out n au; rw [hI] at this; exact this)
                        have HIv : Hid (∀ n, Calls Tryz.prog 19 #[.slice (some ⟨b, off, none⟩) l.length c, .int .i64 av] ((wr.alloc (.cells #[.int .i64 au, .int .i64 av, .int .u64 aw] 60)).drewN n) fun e w' => e = .returned (.bool true) ∧ ((wr.alloc (.cells #[.int .i64 au, .int .i64 av, .int .u64 aw] 60)).drewN n) = w') := Lib.hid (fun n => by have := HIn.out n av; rw [hJ] at this; exact this)
                        have hok := Lib.hid (HO.out ⟨hu, fun h => absurd h hv, fun _ => hV, hI, fun _ => hJ⟩)
                        clear hu hV hI hJ
                        go_wp2
                        go_quiet (fail)
                        go_wp2_with (first
                          | (go_at_call 18; ((with_reducible refine (HU.out _).mono ?_); rintro e w' ⟨rfl, rfl⟩))
                          | (go_at_call 18; ((with_reducible refine (HV.out _).mono ?_); rintro e w' ⟨rfl, rfl⟩))
                          | (go_at_call 19; ((with_reducible refine (HIu.out _).mono ?_); rintro e w' ⟨rfl, rfl⟩))
                          | (go_at_call 19; ((with_reducible refine (HIv.out _).mono ?_); rintro e w' ⟨rfl, rfl⟩)))
                        first
                          | (refine ⟨⟨i + 1, by omega, by go_num, ok_step HA.out hok.out, HBn.out _⟩, by simp [intOf]; omega⟩)
                          | (go_roundw
                             case rel => exact ⟨i + 1, by omega, by go_num, ok_step HA.out hok.out, HBn.out _⟩
                             case measure => simp [intOf]; omega)
          · have g2 : (p.u == au) = false := by simp [o2]
            have HO := Lib.hid (ok_next HAL.out HP.out (by unfold Lt; simp only; omega))
            clear o1 o2
            cases hu : isV au
            · have HU : Hid (∀ W, Calls Tryz.prog 18 #[.int .i64 au] W fun e w' => e = .returned (.bool false) ∧ W = w') := Lib.hid (fun W => by have := is_any au W; rw [hu] at this; exact this)
              have HV : Hid (∀ W, Calls Tryz.prog 18 #[.int .i64 av] W fun e w' => e = .returned (.bool (isV av)) ∧ W = w') := Lib.hid (fun W => is_any av W)
              have hx := Lib.hid (not_row HAL.out (fun r => by have := r.1; rw [hu] at this; cases this))
              clear hu
              go_wp2
              go_quiet (fail)
              go_wp2_with (first
                | (go_at_call 18; ((with_reducible refine (HU.out _).mono ?_); rintro e w' ⟨rfl, rfl⟩))
                | (go_at_call 18; ((with_reducible refine (HV.out _).mono ?_); rintro e w' ⟨rfl, rfl⟩)))
              go_ret
              exact ⟨by rw [hx.out]; rfl, HBn.out _⟩
            · by_cases hv : av = -1
              · by_cases hw : aw = 0
                · cases hI : inB l au
                  · have HU : Hid (∀ W, Calls Tryz.prog 18 #[.int .i64 au] W fun e w' => e = .returned (.bool true) ∧ W = w') := Lib.hid (fun W => by have := is_any au W; rw [hu] at this; exact this)
                    have HV : Hid (∀ W, Calls Tryz.prog 18 #[.int .i64 av] W fun e w' => e = .returned (.bool (isV av)) ∧ W = w') := Lib.hid (fun W => is_any av W)
                    have HIu : Hid (∀ n, Calls Tryz.prog 19 #[.slice (some ⟨b, off, none⟩) l.length c, .int .i64 au] ((wr.alloc (.cells #[.int .i64 au, .int .i64 av, .int .u64 aw] 60)).drewN n) fun e w' => e = .returned (.bool false) ∧ ((wr.alloc (.cells #[.int .i64 au, .int .i64 av, .int .u64 aw] 60)).drewN n) = w') := Lib.hid (fun n => by have := HIn.out n au; rw [hI] at this; exact this)
                    have hx := Lib.hid (not_row HAL.out (fun r => by have := r.2.2.2.1; rw [hI] at this; cases this))
                    clear hu hI
                    subst hv
                    subst hw
                    go_wp2
                    go_quiet (fail)
                    go_wp2_with (first
                      | (go_at_call 18; ((with_reducible refine (HU.out _).mono ?_); rintro e w' ⟨rfl, rfl⟩))
                      | (go_at_call 18; ((with_reducible refine (HV.out _).mono ?_); rintro e w' ⟨rfl, rfl⟩))
                      | (go_at_call 19; ((with_reducible refine (HIu.out _).mono ?_); rintro e w' ⟨rfl, rfl⟩)))
                    go_ret
                    exact ⟨by rw [hx.out]; rfl, HBn.out _⟩
                  · have HU : Hid (∀ W, Calls Tryz.prog 18 #[.int .i64 au] W fun e w' => e = .returned (.bool true) ∧ W = w') := Lib.hid (fun W => by have := is_any au W; rw [hu] at this; exact this)
                    have HV : Hid (∀ W, Calls Tryz.prog 18 #[.int .i64 av] W fun e w' => e = .returned (.bool (isV av)) ∧ W = w') := Lib.hid (fun W => is_any av W)
                    have HIu : Hid (∀ n, Calls Tryz.prog 19 #[.slice (some ⟨b, off, none⟩) l.length c, .int .i64 au] ((wr.alloc (.cells #[.int .i64 au, .int .i64 av, .int .u64 aw] 60)).drewN n) fun e w' => e = .returned (.bool true) ∧ ((wr.alloc (.cells #[.int .i64 au, .int .i64 av, .int .u64 aw] 60)).drewN n) = w') := Lib.hid (fun n => by have := HIn.out n au; rw [hI] at this; exact this)
                    have hok := Lib.hid (HO.out ⟨hu, fun _ => hw, fun h => absurd hv h, hI, fun h => absurd hv h⟩)
                    clear hu hI
                    subst hv
                    subst hw
                    go_wp2
                    go_quiet (fail)
                    go_wp2_with (first
                      | (go_at_call 18; ((with_reducible refine (HU.out _).mono ?_); rintro e w' ⟨rfl, rfl⟩))
                      | (go_at_call 18; ((with_reducible refine (HV.out _).mono ?_); rintro e w' ⟨rfl, rfl⟩))
                      | (go_at_call 19; ((with_reducible refine (HIu.out _).mono ?_); rintro e w' ⟨rfl, rfl⟩)))
                    first
                      | (refine ⟨⟨i + 1, by omega, by go_num, ok_step HA.out hok.out, HBn.out _⟩, by simp [intOf]; omega⟩)
                      | (go_roundw
                         case rel => exact ⟨i + 1, by omega, by go_num, ok_step HA.out hok.out, HBn.out _⟩
                         case measure => simp [intOf]; omega)
                · have hw1 : (aw == 0) = false := by simp [hw]
                  have hw2 : ¬ aw = 0 := hw
                  have HU : Hid (∀ W, Calls Tryz.prog 18 #[.int .i64 au] W fun e w' => e = .returned (.bool true) ∧ W = w') := Lib.hid (fun W => by have := is_any au W; rw [hu] at this; exact this)
                  have HV : Hid (∀ W, Calls Tryz.prog 18 #[.int .i64 av] W fun e w' => e = .returned (.bool (isV av)) ∧ W = w') := Lib.hid (fun W => is_any av W)
                  have hx := Lib.hid (not_row HAL.out (fun r => hw (r.2.1 hv)))
                  clear hu
                  subst hv
                  go_wp2
                  go_quiet (fail)
                  go_wp2_with (first
                    | (go_at_call 18; ((with_reducible refine (HU.out _).mono ?_); rintro e w' ⟨rfl, rfl⟩))
                    | (go_at_call 18; ((with_reducible refine (HV.out _).mono ?_); rintro e w' ⟨rfl, rfl⟩)))
                  go_ret
                  exact ⟨by rw [hx.out]; rfl, HBn.out _⟩
              · cases hV : isV av
                · have hv1 : (av == -1) = false := by simp [hv]
                  have HU : Hid (∀ W, Calls Tryz.prog 18 #[.int .i64 au] W fun e w' => e = .returned (.bool true) ∧ W = w') := Lib.hid (fun W => by have := is_any au W; rw [hu] at this; exact this)
                  have HV : Hid (∀ W, Calls Tryz.prog 18 #[.int .i64 av] W fun e w' => e = .returned (.bool false) ∧ W = w') := Lib.hid (fun W => by have := is_any av W; rw [hV] at this; exact this)
                  have hx := Lib.hid (not_row HAL.out (fun r => by have := r.2.2.1 hv; rw [hV] at this; cases this))
                  clear hu hV
                  go_wp2
                  go_quiet (fail)
                  go_wp2_with (first
                    | (go_at_call 18; ((with_reducible refine (HU.out _).mono ?_); rintro e w' ⟨rfl, rfl⟩))
                    | (go_at_call 18; ((with_reducible refine (HV.out _).mono ?_); rintro e w' ⟨rfl, rfl⟩)))
                  go_ret
                  exact ⟨by rw [hx.out]; rfl, HBn.out _⟩
                · cases hI : inB l au
                  · cases hJ : inB l av
                    · have hv1 : (av == -1) = false := by simp [hv]
                      have HU : Hid (∀ W, Calls Tryz.prog 18 #[.int .i64 au] W fun e w' => e = .returned (.bool true) ∧ W = w') := Lib.hid (fun W => by have := is_any au W; rw [hu] at this; exact this)
                      have HV : Hid (∀ W, Calls Tryz.prog 18 #[.int .i64 av] W fun e w' => e = .returned (.bool true) ∧ W = w') := Lib.hid (fun W => by have := is_any av W; rw [hV] at this; exact this)
                      have HIu : Hid (∀ n, Calls Tryz.prog 19 #[.slice (some ⟨b, off, none⟩) l.length c, .int .i64 au] ((wr.alloc (.cells #[.int .i64 au, .int .i64 av, .int .u64 aw] 60)).drewN n) fun e w' => e = .returned (.bool false) ∧ ((wr.alloc (.cells #[.int .i64 au, .int .i64 av, .int .u64 aw] 60)).drewN n) = w') := Lib.hid (fun n => by have := HIn.out n au; rw [hI] at this; exact this)
                      have HIv : Hid (∀ n, Calls Tryz.prog 19 #[.slice (some ⟨b, off, none⟩) l.length c, .int .i64 av] ((wr.alloc (.cells #[.int .i64 au, .int .i64 av, .int .u64 aw] 60)).drewN n) fun e w' => e = .returned (.bool false) ∧ ((wr.alloc (.cells #[.int .i64 au, .int .i64 av, .int .u64 aw] 60)).drewN n) = w') := Lib.hid (fun n => by have := HIn.out n av; rw [hJ] at this; exact this)
                      have hx := Lib.hid (not_row HAL.out (fun r => by have := r.2.2.2.1; rw [hI] at this; cases this))
                      clear hu hV hI hJ
                      go_wp2
                      go_quiet (fail)
                      go_wp2_with (first
                        | (go_at_call 18; ((with_reducible refine (HU.out _).mono ?_); rintro e w' ⟨rfl, rfl⟩))
                        | (go_at_call 18; ((with_reducible refine (HV.out _).mono ?_); rintro e w' ⟨rfl, rfl⟩))
                        | (go_at_call 19; ((with_reducible refine (HIu.out _).mono ?_); rintro e w' ⟨rfl, rfl⟩))
                        | (go_at_call 19; ((with_reducible refine (HIv.out _).mono ?_); rintro e w' ⟨rfl, rfl⟩)))
                      go_ret
                      exact ⟨by rw [hx.out]; rfl, HBn.out _⟩
                    · have hv1 : (av == -1) = false := by simp [hv]
                      have HU : Hid (∀ W, Calls Tryz.prog 18 #[.int .i64 au] W fun e w' => e = .returned (.bool true) ∧ W = w') := Lib.hid (fun W => by have := is_any au W; rw [hu] at this; exact this)
                      have HV : Hid (∀ W, Calls Tryz.prog 18 #[.int .i64 av] W fun e w' => e = .returned (.bool true) ∧ W = w') := Lib.hid (fun W => by have := is_any av W; rw [hV] at this; exact this)
                      have HIu : Hid (∀ n, Calls Tryz.prog 19 #[.slice (some ⟨b, off, none⟩) l.length c, .int .i64 au] ((wr.alloc (.cells #[.int .i64 au, .int .i64 av, .int .u64 aw] 60)).drewN n) fun e w' => e = .returned (.bool false) ∧ ((wr.alloc (.cells #[.int .i64 au, .int .i64 av, .int .u64 aw] 60)).drewN n) = w') := Lib.hid (fun n => by have := HIn.out n au; rw [hI] at this; exact this)
                      have HIv : Hid (∀ n, Calls Tryz.prog 19 #[.slice (some ⟨b, off, none⟩) l.length c, .int .i64 av] ((wr.alloc (.cells #[.int .i64 au, .int .i64 av, .int .u64 aw] 60)).drewN n) fun e w' => e = .returned (.bool true) ∧ ((wr.alloc (.cells #[.int .i64 au, .int .i64 av, .int .u64 aw] 60)).drewN n) = w') := Lib.hid (fun n => by have := HIn.out n av; rw [hJ] at this; exact this)
                      have hx := Lib.hid (not_row HAL.out (fun r => by have := r.2.2.2.1; rw [hI] at this; cases this))
                      clear hu hV hI hJ
                      go_wp2
                      go_quiet (fail)
                      go_wp2_with (first
                        | (go_at_call 18; ((with_reducible refine (HU.out _).mono ?_); rintro e w' ⟨rfl, rfl⟩))
                        | (go_at_call 18; ((with_reducible refine (HV.out _).mono ?_); rintro e w' ⟨rfl, rfl⟩))
                        | (go_at_call 19; ((with_reducible refine (HIu.out _).mono ?_); rintro e w' ⟨rfl, rfl⟩))
                        | (go_at_call 19; ((with_reducible refine (HIv.out _).mono ?_); rintro e w' ⟨rfl, rfl⟩)))
                      go_ret
                      exact ⟨by rw [hx.out]; rfl, HBn.out _⟩
                  · cases hJ : inB l av
                    · have hv1 : (av == -1) = false := by simp [hv]
                      have HU : Hid (∀ W, Calls Tryz.prog 18 #[.int .i64 au] W fun e w' => e = .returned (.bool true) ∧ W = w') := Lib.hid (fun W => by have := is_any au W; rw [hu] at this; exact this)
                      have HV : Hid (∀ W, Calls Tryz.prog 18 #[.int .i64 av] W fun e w' => e = .returned (.bool true) ∧ W = w') := Lib.hid (fun W => by have := is_any av W; rw [hV] at this; exact this)
                      have HIu : Hid (∀ n, Calls Tryz.prog 19 #[.slice (some ⟨b, off, none⟩) l.length c, .int .i64 au] ((wr.alloc (.cells #[.int .i64 au, .int .i64 av, .int .u64 aw] 60)).drewN n) fun e w' => e = .returned (.bool true) ∧ ((wr.alloc (.cells #[.int .i64 au, .int .i64 av, .int .u64 aw] 60)).drewN n) = w') := Lib.hid (fun n => by have := HIn.out n au; rw [hI] at this; exact this)
                      have HIv : Hid (∀ n, Calls Tryz.prog 19 #[.slice (some ⟨b, off, none⟩) l.length c, .int .i64 av] ((wr.alloc (.cells #[.int .i64 au, .int .i64 av, .int .u64 aw] 60)).drewN n) fun e w' => e = .returned (.bool false) ∧ ((wr.alloc (.cells #[.int .i64 au, .int .i64 av, .int .u64 aw] 60)).drewN n) = w') := Lib.hid (fun n => by have := HIn.out n av; rw [hJ] at this; exact this)
                      have hx := Lib.hid (not_row HAL.out (fun r => by have := r.2.2.2.2 hv; rw [hJ] at this; cases this))
                      clear hu hV hI hJ
                      go_wp2
                      go_quiet (fail)
                      go_wp2_with (first
                        | (go_at_call 18; ((with_reducible refine (HU.out _).mono ?_); rintro e w' ⟨rfl, rfl⟩))
                        | (go_at_call 18; ((with_reducible refine (HV.out _).mono ?_); rintro e w' ⟨rfl, rfl⟩))
                        | (go_at_call 19; ((with_reducible refine (HIu.out _).mono ?_); rintro e w' ⟨rfl, rfl⟩))
                        | (go_at_call 19; ((with_reducible refine (HIv.out _).mono ?_); rintro e w' ⟨rfl, rfl⟩)))
                      go_ret
                      exact ⟨by rw [hx.out]; rfl, HBn.out _⟩
                    · have hv1 : (av == -1) = false := by simp [hv]
                      have HU : Hid (∀ W, Calls Tryz.prog 18 #[.int .i64 au] W fun e w' => e = .returned (.bool true) ∧ W = w') := Lib.hid (fun W => by have := is_any au W; rw [hu] at this; exact this)
                      have HV : Hid (∀ W, Calls Tryz.prog 18 #[.int .i64 av] W fun e w' => e = .returned (.bool true) ∧ W = w') := Lib.hid (fun W => by have := is_any av W; rw [hV] at this; exact this)
                      have HIu : Hid (∀ n, Calls Tryz.prog 19 #[.slice (some ⟨b, off, none⟩) l.length c, .int .i64 au] ((wr.alloc (.cells #[.int .i64 au, .int .i64 av, .int .u64 aw] 60)).drewN n) fun e w' => e = .returned (.bool true) ∧ ((wr.alloc (.cells #[.int .i64 au, .int .i64 av, .int .u64 aw] 60)).drewN n) = w') := Lib.hid (fun n => by have := HIn.out n au; rw [hI] at this; exact this)
                      have HIv : Hid (∀ n, Calls Tryz.prog 19 #[.slice (some ⟨b, off, none⟩) l.length c, .int .i64 av] ((wr.alloc (.cells #[.int .i64 au, .int .i64 av, .int .u64 aw] 60)).drewN n) fun e w' => e = .returned (.bool true) ∧ ((wr.alloc (.cells #[.int .i64 au, .int .i64 av, .int .u64 aw] 60)).drewN n) = w') := Lib.hid (fun n => by have := HIn.out n av; rw [hJ] at this; exact this)
                      have hok := Lib.hid (HO.out ⟨hu, fun h => absurd h hv, fun _ => hV, hI, fun _ => hJ⟩)
                      clear hu hV hI hJ
                      go_wp2
                      go_quiet (fail)
                      go_wp2_with (first
                        | (go_at_call 18; ((with_reducible refine (HU.out _).mono ?_); rintro e w' ⟨rfl, rfl⟩))
                        | (go_at_call 18; ((with_reducible refine (HV.out _).mono ?_); rintro e w' ⟨rfl, rfl⟩))
                        | (go_at_call 19; ((with_reducible refine (HIu.out _).mono ?_); rintro e w' ⟨rfl, rfl⟩))
                        | (go_at_call 19; ((with_reducible refine (HIv.out _).mono ?_); rintro e w' ⟨rfl, rfl⟩)))
                      first
                        | (refine ⟨⟨i + 1, by omega, by go_num, ok_step HA.out hok.out, HBn.out _⟩, by simp [intOf]; omega⟩)
                        | (go_roundw
                           case rel => exact ⟨i + 1, by omega, by go_num, ok_step HA.out hok.out, HBn.out _⟩
                           case measure => simp [intOf]; omega)
    · have hx := Lib.hid (ok_past HA.out (by omega))
      go_wp2
      go_ret
      exact ⟨by rw [hx.out]; rfl, HB.out⟩
end Go.Proofs.YtpdfmfkoopdfgaaGreatDoor.Gr
end
section
namespace Go.Proofs.YtpdfmfkoopdfgaaGreatDoor.Gr
set_option maxRecDepth 100000
open Go.RowKit Aid

theorem rises_pair {l : List Arc} : Rises l ↔ l.Pairwise Lt := by
  constructor
  · intro h
    exact List.pairwise_iff_getElem.2 fun i j hi hj hij => h i j _ _ hij (List.getElem?_eq_getElem hi) (List.getElem?_eq_getElem hj)
  · intro h i j a b hij ha hb
    obtain ⟨hi, rfl⟩ := List.getElem?_eq_some_iff.1 ha
    obtain ⟨hj, rfl⟩ := List.getElem?_eq_some_iff.1 hb
    exact List.pairwise_iff_getElem.1 h i j hi hj hij
theorem Lt.tri (a b : Arc) : Lt a b ∨ (a.u = b.u ∧ a.v = b.v) ∨ Lt b a := by unfold Lt; omega
theorem hasB_iff {l : List Arc} {u v : Int} : hasB l u v = true ↔ ∃ a ∈ l, a.u = u ∧ a.v = v := by
  unfold hasB rowOf
  rw [List.find?_isSome]
  simp
theorem hasB_no {l : List Arc} {u v : Int} : hasB l u v = false ↔ ∀ a ∈ l, ¬ (a.u = u ∧ a.v = v) := by
  constructor
  · intro h a ha hc
    have := hasB_iff.2 ⟨a, ha, hc⟩
    rw [h] at this; cases this
  · intro h
    cases hb : hasB l u v
    · rfl
    · obtain ⟨a, ha, hc⟩ := hasB_iff.1 hb
      exact absurd hc (h a ha)
/-- A graph that is right. -/
structure R (l : List Arc) : Prop where
  rises : Rises l
  row : ∀ a ∈ l, RowOk l a
theorem adj_rises {l : List Arc} (h : ∀ (j : Nat) (p a : Arc), l[j]? = some p → l[j + 1]? = some a → Lt p a) : Rises l := by
  intro i j a b hij
  induction j generalizing b with
  | zero => omega
  | succ j ih =>
    intro ha hb
    rcases Nat.lt_or_ge i j with q | q
    · obtain ⟨c, hc⟩ : ∃ c, l[j]? = some c := ⟨l[j]'(by have := (List.getElem?_eq_some_iff.1 hb).1; omega), List.getElem?_eq_getElem _⟩
      exact (ih c q ha hc).trans (h j c b hc hb)
    · obtain rfl : i = j := by omega
      exact h i a b ha hb
theorem R.of {l : List Arc} (h : RightP l) : R l := ⟨adj_rises fun j p a hp ha => (h (j + 1) a ha).1 p (by omega) hp, fun a ha => by
  obtain ⟨j, hj, rfl⟩ := List.getElem_of_mem ha
  exact (h j _ (List.getElem?_eq_getElem hj)).2⟩
theorem R.right {l : List Arc} (h : R l) : rightB l = true := rightB_t fun j a ha => ⟨fun p hj hp => h.rises (j - 1) j p a (by omega) hp ha, h.row a (List.mem_of_getElem? ha)⟩
/-! ### with -/
theorem place_split {l : List Arc} (hs : Rises l) (t : Arc) (hn : hasB l t.u t.v = false) : (∀ a ∈ l.take (place l t), Lt a t) ∧ (∀ a ∈ l.drop (place l t), Lt t a) := by
  have hp := rises_pair.1 hs
  have hno := hasB_no.1 hn
  clear hs hn
  unfold place
  induction l with
  | nil => simp
  | cons x l ih =>
    rw [List.pairwise_cons] at hp
    have ih := ih hp.2 (fun a ha => hno a (List.mem_cons_of_mem _ ha))
    by_cases h : Lt x t
    · rw [List.takeWhile_cons_of_pos (by simpa using h), List.length_cons, List.take_succ_cons, List.drop_succ_cons]
      refine ⟨fun a ha => ?_, ih.2⟩
      rcases List.mem_cons.1 ha with rfl | q
      · exact h
      · exact ih.1 a q
    · rw [List.takeWhile_cons_of_neg (by simpa using h)]
      have hx : Lt t x := by
        rcases Lt.tri x t with q | q | q
        · exact absurd q h
        · exact absurd q (hno x (List.mem_cons_self ..))
        · exact q
      refine ⟨by simp, fun a ha => ?_⟩
      rcases List.mem_cons.1 (by simpa using ha) with rfl | q
      · exact hx
      · exact hx.trans (hp.1 a q)
theorem lt_key {a x y : Arc} (h1 : x.u = y.u) (h2 : x.v = y.v) : (Lt a x ↔ Lt a y) ∧ (Lt x a ↔ Lt y a) := by unfold Lt; rw [h1, h2]; exact ⟨Iff.rfl, Iff.rfl⟩
theorem rises_withL {l : List Arc} (hs : Rises l) (x : Arc) : Rises (withL l x) := by
  cases hb : hasB l x.u x.v
  · rw [withL_miss hb]
    obtain ⟨h1, h2⟩ := place_split hs ⟨x.u, x.v, 0⟩ hb
    have hp := rises_pair.1 hs
    rw [← List.take_append_drop (place l ⟨x.u, x.v, 0⟩) l, List.pairwise_append] at hp
    obtain ⟨q1, q2, q3⟩ := hp
    refine rises_pair.2 ?_
    unfold putIn
    rw [List.pairwise_append]
    refine ⟨q1, List.pairwise_cons.2 ⟨fun a ha => (lt_key (x := ⟨x.u, x.v, 0⟩) (y := x) rfl rfl).2.1 (h2 a ha), q2⟩, fun a ha b hb => ?_⟩
    rcases List.mem_cons.1 hb with rfl | q
    · exact (lt_key (x := ⟨b.u, b.v, 0⟩) (y := b) rfl rfl).1.1 (h1 a ha)
    · exact q3 a ha b q
  · rw [withL_hit hb]; exact hs
theorem len_withL {l : List Arc} {x : Arc} : (withL l x).length = l.length + (if hasB l x.u x.v then 0 else 1) := by
  cases hb : hasB l x.u x.v
  · rw [withL_miss hb, putIn_length _ (place_le _ _)]; rfl
  · rw [withL_hit hb]; rfl
theorem rises_kept {l : List Arc} (hs : Rises l) (p : Arc → Bool) : Rises (kept l p) := rises_pair.2 ((rises_pair.1 hs).filter _)
/-! ### Do -/
/-- An operation that may be: its kind and its keys. -/
def Fit (o : Op) : Prop := 11 ≤ o.k ∧ o.k ≤ 17 ∧ keysB o = true
theorem keys_t {o : Op} (h : keysB o = true) : isV o.u = true ∧ (edgeKind o.k = true → isV o.v = true) := by
  unfold keysB at h
  cases he : edgeKind o.k
  · rw [he] at h; exact ⟨h, fun q => by cases q⟩
  · rw [he] at h
    simp only [if_true, Bool.and_eq_true] at h
    exact ⟨h.1, fun _ => h.2⟩
theorem Fit.u {o : Op} (h : Fit o) : 0 ≤ o.u := (isV_t (keys_t h.2.2).1).1
theorem Fit.v {o : Op} (h : Fit o) (hk : o.k = 14 ∨ o.k = 15 ∨ o.k = 16) : 0 ≤ o.v := (isV_t ((keys_t h.2.2).2 (decide_eq_true hk))).1
theorem doG_bad {l : List Arc} {o : Op} (h : ¬ Fit o) : doG l o = l := by
  unfold doG
  rw [if_pos]
  cases hk : keysB o
  · simp
  · simp
    unfold Fit at h
    rw [hk] at h; simp at h; omega
theorem fit_no {o : Op} (h : Fit o) : ¬ ((decide (o.k < 11 ∨ 17 < o.k) || !keysB o) = true) := by
  obtain ⟨h1, h2, h3⟩ := h
  rw [h3]; simp; omega
theorem doG_11 {l : List Arc} {o : Op} (h : Fit o) (hk : o.k = 11) : doG l o = withL l ⟨o.u, -1, 0⟩ := by
  unfold doG; rw [if_neg (fit_no h), if_pos hk]
theorem doG_12 {l : List Arc} {o : Op} (h : Fit o) (hk : o.k = 12) : doG l o = kept l (ends o) := by
  unfold doG; rw [if_neg (fit_no h), if_neg (by omega), if_pos hk]
theorem doG_14 {l : List Arc} {o : Op} (h : Fit o) (hk : o.k = 14) (hb : both l o = true) : doG l o = withL l ⟨o.u, o.v, o.w⟩ := by
  unfold doG; rw [if_neg (fit_no h), if_neg (by omega), if_neg (by omega), if_pos ⟨hk, hb⟩]
theorem doG_15 {l : List Arc} {o : Op} (h : Fit o) (hk : o.k = 15) (hb : both l o = true) : doG l o = kept l (isE o) := by
  unfold doG; rw [if_neg (fit_no h), if_neg (by omega), if_neg (by omega), if_neg (by omega), if_pos ⟨hk, hb⟩]
theorem doG_else {l : List Arc} {o : Op} (h1 : o.k ≠ 11) (h2 : o.k ≠ 12) (h3 : o.k = 14 → both l o = false) (h4 : o.k = 15 → both l o = false) : doG l o = l := by
  unfold doG
  split
  · rfl
  · have a3 : ¬ (o.k = 14 ∧ both l o = true) := fun q => by rw [h3 q.1] at q; cases q.2
    have a4 : ¬ (o.k = 15 ∧ both l o = true) := fun q => by rw [h4 q.1] at q; cases q.2
    simp only [if_neg a3, if_neg a4]
/-- Rows that an operation strikes out. -/
def Rem (l : List Arc) (o : Op) (a : Arc) : Prop := Fit o ∧ ((o.k = 12 ∧ (a.u = o.u ∨ a.v = o.u)) ∨ (o.k = 15 ∧ both l o = true ∧ a.u = o.u ∧ a.v = o.v))
/-- Rows that an operation adds. -/
def Add (l : List Arc) (o : Op) (a : Arc) : Prop := Fit o ∧ ((o.k = 11 ∧ hasB l o.u (-1) = false ∧ a = ⟨o.u, -1, 0⟩) ∨ (o.k = 14 ∧ both l o = true ∧ hasB l o.u o.v = false ∧ a = ⟨o.u, o.v, o.w⟩))
theorem rises_do {l : List Arc} (hs : Rises l) (o : Op) : Rises (doG l o) := by
  by_cases hf : Fit o
  · by_cases h1 : o.k = 11
    · rw [doG_11 hf h1]; exact rises_withL hs _
    · by_cases h2 : o.k = 12
      · rw [doG_12 hf h2]; exact rises_kept hs _
      · by_cases h3 : o.k = 14 ∧ both l o = true
        · rw [doG_14 hf h3.1 h3.2]; exact rises_withL hs _
        · by_cases h4 : o.k = 15 ∧ both l o = true
          · rw [doG_15 hf h4.1 h4.2]; exact rises_kept hs _
          · rw [doG_else h1 h2 (fun q => by cases hb : both l o; rfl; exact absurd ⟨q, hb⟩ h3) (fun q => by cases hb : both l o; rfl; exact absurd ⟨q, hb⟩ h4)]; exact hs
  · rw [doG_bad hf]; exact hs
theorem len_do (l : List Arc) (o : Op) : (doG l o).length ≤ l.length + 1 := by
  by_cases hf : Fit o
  · by_cases h1 : o.k = 11
    · rw [doG_11 hf h1, len_withL]; split <;> omega
    · by_cases h2 : o.k = 12
      · rw [doG_12 hf h2]; have := kept_le l (ends o); omega
      · by_cases h3 : o.k = 14 ∧ both l o = true
        · rw [doG_14 hf h3.1 h3.2, len_withL]; split <;> omega
        · by_cases h4 : o.k = 15 ∧ both l o = true
          · rw [doG_15 hf h4.1 h4.2]; have := kept_le l (isE o); omega
          · rw [doG_else h1 h2 (fun q => by cases hb : both l o; rfl; exact absurd ⟨q, hb⟩ h3) (fun q => by cases hb : both l o; rfl; exact absurd ⟨q, hb⟩ h4)]; omega
  · rw [doG_bad hf]; omega
end Go.Proofs.YtpdfmfkoopdfgaaGreatDoor.Gr
end
section
namespace Go.Proofs.YtpdfmfkoopdfgaaGreatDoor.Gr
set_option maxRecDepth 100000
open Go.RowKit Aid

/-! ### Done twice -/
/-! ### AddV, RemV, AddE, RemE -/
end Go.Proofs.YtpdfmfkoopdfgaaGreatDoor.Gr
end
