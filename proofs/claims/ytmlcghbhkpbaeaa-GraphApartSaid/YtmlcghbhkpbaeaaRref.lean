/- wealdref19.Right. -/
import Derived.Test.YtmlcghbhkpbaeaaDo5
namespace Go.Proofs.Ytmlcghbhkpbaeaa
open Go.RowKit Aid

/-- A row is one that may be. -/
def RowOk (l : List Arc) (a : Arc) : Prop := isV a.u = true ∧ (a.v = -1 → a.w = 0) ∧ (a.v ≠ -1 → isV a.v = true) ∧ inB l a.u = true ∧ (a.v ≠ -1 → inB l a.v = true)
def OkAt (l : List Arc) (j : Nat) : Prop := ∀ a, l[j]? = some a → (∀ p, 0 < j → l[j - 1]? = some p → Lt p a) ∧ RowOk l a
def RightP (l : List Arc) : Prop := ∀ j, OkAt l j
noncomputable def rightB (l : List Arc) : Bool := by classical exact decide (RightP l)
theorem rightB_t {l : List Arc} (h : RightP l) : rightB l = true := by unfold rightB; simpa using h
theorem rightB_f {l : List Arc} (h : ¬ RightP l) : rightB l = false := by unfold rightB; simpa using h
theorem right_of {l : List Arc} (h : rightB l = true) : RightP l := by unfold rightB at h; simpa using h
theorem not_order {l : List Arc} {j : Nat} {p a : Arc} (hj : 0 < j) (ha : l[j]? = some a) (hp : l[j - 1]? = some p) (h : ¬ Lt p a) : rightB l = false := rightB_f fun r => h ((r j a ha).1 p hj hp)
theorem not_row {l : List Arc} {j : Nat} {a : Arc} (ha : l[j]? = some a) (h : ¬ RowOk l a) : rightB l = false := rightB_f fun r => h (r j a ha).2
theorem ok_first {l : List Arc} {j : Nat} {a : Arc} (hj : j = 0) (ha : l[j]? = some a) (h : RowOk l a) : OkAt l j := fun b hb => by
  rw [ha] at hb; cases hb
  exact ⟨fun p hp => by omega, h⟩
theorem ok_next {l : List Arc} {j : Nat} {a p : Arc} (ha : l[j]? = some a) (hp : l[j - 1]? = some p) (hl : Lt p a) (h : RowOk l a) : OkAt l j := fun b hb => by
  rw [ha] at hb; cases hb
  exact ⟨fun q _ hq => by rw [hp] at hq; cases hq; exact hl, h⟩
theorem ok_past {l : List Arc} {i : Nat} (h : ∀ j, j < i → OkAt l j) (hi : l.length ≤ i) : rightB l = true := rightB_t fun j => by
  rcases Nat.lt_or_ge j i with hj | hj
  · exact h j hj
  · intro a ha
    have := (List.getElem?_eq_some_iff.1 ha).1
    omega
theorem ok_step {l : List Arc} {i : Nat} (h : ∀ j, j < i → OkAt l j) (h2 : OkAt l i) : ∀ j, j < i + 1 → OkAt l j := fun j hj => by
  rcases Nat.lt_or_ge j i with q | q
  · exact h j q
  · obtain rfl : j = i := by omega
    exact h2
set_option maxHeartbeats 16000000 in
set_option maxRecDepth 100000 in
theorem refRight_any (A : Option Addr) (c n : Nat) (l : List Arc) (w : World) (hn : n = l.length) (hl : Arcs w A l) (h40 : l.length ≤ 1000) :
    Calls Try.prog 9 #[.slice A n c] w fun e w' => e = .returned (.bool (rightB l)) ∧ Below w.heap.size w w' := by
  subst hn
  have HL := Lib.hid hl
  clear hl
  go_enter Try.func9, Try.ntmps9
  go_wp2
  go_loopw [3] (fun v wr => ∃ i : Nat, i ≤ l.length ∧ v = .int .i64 i ∧ (∀ j, j < i → OkAt l j) ∧ Below w.heap.size w wr) (fun v _ => l.length - (intOf v).toNat)
  case atStart => exact ⟨0, Nat.zero_le _, rfl, fun j hj => by omega, Below.refl _ _⟩
  case round =>
    obtain ⟨i, hi, rfl, hall, hb⟩ := hrel
    have HA := Lib.hid hall
    have HB := Lib.hid hb
    clear hall hb
    by_cases hlt : i < l.length
    · obtain ⟨⟨au, av, aw⟩, hal⟩ : ∃ a, l[i]? = some a := ⟨_, List.getElem?_eq_getElem hlt⟩
      have bA := Lib.hid ((Below.refl wr.heap.size wr).alloc (Nat.le_refl _) (.cells #[.int .i64 au, .int .i64 av, .int .u64 aw] 41))
      have HIn : Hid (∀ n y, Calls Try.prog 16 #[.slice A l.length c, .int .i64 y] ((wr.alloc (.cells #[.int .i64 au, .int .i64 av, .int .u64 aw] 41)).drewN n) fun e w' => e = .returned (.bool (inB l y)) ∧ (wr.alloc (.cells #[.int .i64 au, .int .i64 av, .int .u64 aw] 41)).drewN n = w') := Lib.hid (fun n y => refIn_any A c l.length l y _ rfl ((HL.out.below HB.out (Nat.le_refl _)).below (below_drewN bA.out n) (Nat.le_refl _)))
      have HBn : Hid (∀ n, Below w.heap.size w ((wr.alloc (.cells #[.int .i64 au, .int .i64 av, .int .u64 aw] 41)).drewN n)) := Lib.hid (fun n => HB.out.trans ((below_drewN bA.out n).mono HB.out.size))
      obtain ⟨b, off, hA, hcs⟩ := (HL.out.below HB.out (Nat.le_refl _)).2.2 (by omega)
      subst hA
      obtain ⟨c1, c2, c3⟩ := hcs i ⟨au, av, aw⟩ hal
      have HCS := Lib.hid hcs
      have HAL := Lib.hid hal
      clear hcs hal
      have i0 : (0 : Int) ≤ (i : Int) := by omega
      have i1 : (i : Int) < (l.length : Int) := by omega
      by_cases hi0 : i = 0
      · have hd : decide ((0 : Int) < (i : Int)) = false := by simp; omega
        have hd2 : decide (0 < i) = false := by simp; omega
        have HO := Lib.hid (ok_first hi0 HAL.out)
        clear HCS hi0
        cases hu : isV au
        · have HU : Hid (∀ W, Calls Try.prog 13 #[.int .i64 au] W fun e w' => e = .returned (.bool false) ∧ W = w') := Lib.hid (fun W => by have := is_any au W; rw [hu] at this; exact this)
          have HV : Hid (∀ W, Calls Try.prog 13 #[.int .i64 av] W fun e w' => e = .returned (.bool (isV av)) ∧ W = w') := Lib.hid (fun W => is_any av W)
          have hx := Lib.hid (not_row HAL.out (fun r => by have := r.1; rw [hu] at this; cases this))
          clear hu
          go_wp2
          go_quiet (fail)
          go_wp2_with (first
            | (go_at_call 13; ((with_reducible refine (HU.out _).mono ?_); rintro e w' ⟨rfl, rfl⟩))
            | (go_at_call 13; ((with_reducible refine (HV.out _).mono ?_); rintro e w' ⟨rfl, rfl⟩)))
          go_ret
          exact ⟨by rw [hx.out]; rfl, HBn.out _⟩
        · by_cases hv : av = -1
          · by_cases hw : aw = 0
            · cases hI : inB l au
              · have HU : Hid (∀ W, Calls Try.prog 13 #[.int .i64 au] W fun e w' => e = .returned (.bool true) ∧ W = w') := Lib.hid (fun W => by have := is_any au W; rw [hu] at this; exact this)
                have HV : Hid (∀ W, Calls Try.prog 13 #[.int .i64 av] W fun e w' => e = .returned (.bool (isV av)) ∧ W = w') := Lib.hid (fun W => is_any av W)
                have HIu : Hid (∀ n, Calls Try.prog 16 #[.slice (some ⟨b, off, none⟩) l.length c, .int .i64 au] ((wr.alloc (.cells #[.int .i64 au, .int .i64 av, .int .u64 aw] 41)).drewN n) fun e w' => e = .returned (.bool false) ∧ ((wr.alloc (.cells #[.int .i64 au, .int .i64 av, .int .u64 aw] 41)).drewN n) = w') := Lib.hid (fun n => by have := HIn.out n au; rw [hI] at this; exact this)
                have hx := Lib.hid (not_row HAL.out (fun r => by have := r.2.2.2.1; rw [hI] at this; cases this))
                clear hu hI
                subst hv
                subst hw
                go_wp2
                go_quiet (fail)
                go_wp2_with (first
                  | (go_at_call 13; ((with_reducible refine (HU.out _).mono ?_); rintro e w' ⟨rfl, rfl⟩))
                  | (go_at_call 13; ((with_reducible refine (HV.out _).mono ?_); rintro e w' ⟨rfl, rfl⟩))
                  | (go_at_call 16; ((with_reducible refine (HIu.out _).mono ?_); rintro e w' ⟨rfl, rfl⟩)))
                go_ret
                exact ⟨by rw [hx.out]; rfl, HBn.out _⟩
              · have HU : Hid (∀ W, Calls Try.prog 13 #[.int .i64 au] W fun e w' => e = .returned (.bool true) ∧ W = w') := Lib.hid (fun W => by have := is_any au W; rw [hu] at this; exact this)
                have HV : Hid (∀ W, Calls Try.prog 13 #[.int .i64 av] W fun e w' => e = .returned (.bool (isV av)) ∧ W = w') := Lib.hid (fun W => is_any av W)
                have HIu : Hid (∀ n, Calls Try.prog 16 #[.slice (some ⟨b, off, none⟩) l.length c, .int .i64 au] ((wr.alloc (.cells #[.int .i64 au, .int .i64 av, .int .u64 aw] 41)).drewN n) fun e w' => e = .returned (.bool true) ∧ ((wr.alloc (.cells #[.int .i64 au, .int .i64 av, .int .u64 aw] 41)).drewN n) = w') := Lib.hid (fun n => by have := HIn.out n au; rw [hI] at this; exact this)
                have hok := Lib.hid (HO.out ⟨hu, fun _ => hw, fun h => absurd hv h, hI, fun h => absurd hv h⟩)
                clear hu hI
                subst hv
                subst hw
                go_wp2
                go_quiet (fail)
                go_wp2_with (first
                  | (go_at_call 13; ((with_reducible refine (HU.out _).mono ?_); rintro e w' ⟨rfl, rfl⟩))
                  | (go_at_call 13; ((with_reducible refine (HV.out _).mono ?_); rintro e w' ⟨rfl, rfl⟩))
                  | (go_at_call 16; ((with_reducible refine (HIu.out _).mono ?_); rintro e w' ⟨rfl, rfl⟩)))
                first
                  | (refine ⟨⟨i + 1, by omega, by go_num, ok_step HA.out hok.out, HBn.out _⟩, by simp [intOf]; omega⟩)
                  | (go_roundw
                     case rel => exact ⟨i + 1, by omega, by go_num, ok_step HA.out hok.out, HBn.out _⟩
                     case measure => simp [intOf]; omega)
            · have hw1 : (aw == 0) = false := by simp [hw]
              have hw2 : ¬ aw = 0 := hw
              have HU : Hid (∀ W, Calls Try.prog 13 #[.int .i64 au] W fun e w' => e = .returned (.bool true) ∧ W = w') := Lib.hid (fun W => by have := is_any au W; rw [hu] at this; exact this)
              have HV : Hid (∀ W, Calls Try.prog 13 #[.int .i64 av] W fun e w' => e = .returned (.bool (isV av)) ∧ W = w') := Lib.hid (fun W => is_any av W)
              have hx := Lib.hid (not_row HAL.out (fun r => hw (r.2.1 hv)))
              clear hu
              subst hv
              go_wp2
              go_quiet (fail)
              go_wp2_with (first
                | (go_at_call 13; ((with_reducible refine (HU.out _).mono ?_); rintro e w' ⟨rfl, rfl⟩))
                | (go_at_call 13; ((with_reducible refine (HV.out _).mono ?_); rintro e w' ⟨rfl, rfl⟩)))
              go_ret
              exact ⟨by rw [hx.out]; rfl, HBn.out _⟩
          · cases hV : isV av
            · have hv1 : (av == -1) = false := by simp [hv]
              have HU : Hid (∀ W, Calls Try.prog 13 #[.int .i64 au] W fun e w' => e = .returned (.bool true) ∧ W = w') := Lib.hid (fun W => by have := is_any au W; rw [hu] at this; exact this)
              have HV : Hid (∀ W, Calls Try.prog 13 #[.int .i64 av] W fun e w' => e = .returned (.bool false) ∧ W = w') := Lib.hid (fun W => by have := is_any av W; rw [hV] at this; exact this)
              have hx := Lib.hid (not_row HAL.out (fun r => by have := r.2.2.1 hv; rw [hV] at this; cases this))
              clear hu hV
              go_wp2
              go_quiet (fail)
              go_wp2_with (first
                | (go_at_call 13; ((with_reducible refine (HU.out _).mono ?_); rintro e w' ⟨rfl, rfl⟩))
                | (go_at_call 13; ((with_reducible refine (HV.out _).mono ?_); rintro e w' ⟨rfl, rfl⟩)))
              go_ret
              exact ⟨by rw [hx.out]; rfl, HBn.out _⟩
            · cases hI : inB l au
              · cases hJ : inB l av
                · have hv1 : (av == -1) = false := by simp [hv]
                  have HU : Hid (∀ W, Calls Try.prog 13 #[.int .i64 au] W fun e w' => e = .returned (.bool true) ∧ W = w') := Lib.hid (fun W => by have := is_any au W; rw [hu] at this; exact this)
                  have HV : Hid (∀ W, Calls Try.prog 13 #[.int .i64 av] W fun e w' => e = .returned (.bool true) ∧ W = w') := Lib.hid (fun W => by have := is_any av W; rw [hV] at this; exact this)
                  have HIu : Hid (∀ n, Calls Try.prog 16 #[.slice (some ⟨b, off, none⟩) l.length c, .int .i64 au] ((wr.alloc (.cells #[.int .i64 au, .int .i64 av, .int .u64 aw] 41)).drewN n) fun e w' => e = .returned (.bool false) ∧ ((wr.alloc (.cells #[.int .i64 au, .int .i64 av, .int .u64 aw] 41)).drewN n) = w') := Lib.hid (fun n => by have := HIn.out n au; rw [hI] at this; exact this)
                  have HIv : Hid (∀ n, Calls Try.prog 16 #[.slice (some ⟨b, off, none⟩) l.length c, .int .i64 av] ((wr.alloc (.cells #[.int .i64 au, .int .i64 av, .int .u64 aw] 41)).drewN n) fun e w' => e = .returned (.bool false) ∧ ((wr.alloc (.cells #[.int .i64 au, .int .i64 av, .int .u64 aw] 41)).drewN n) = w') := Lib.hid (fun n => by have := HIn.out n av; rw [hJ] at this; exact this)
                  have hx := Lib.hid (not_row HAL.out (fun r => by have := r.2.2.2.1; rw [hI] at this; cases this))
                  clear hu hV hI hJ
                  go_wp2
                  go_quiet (fail)
                  go_wp2_with (first
                    | (go_at_call 13; ((with_reducible refine (HU.out _).mono ?_); rintro e w' ⟨rfl, rfl⟩))
                    | (go_at_call 13; ((with_reducible refine (HV.out _).mono ?_); rintro e w' ⟨rfl, rfl⟩))
                    | (go_at_call 16; ((with_reducible refine (HIu.out _).mono ?_); rintro e w' ⟨rfl, rfl⟩))
                    | (go_at_call 16; ((with_reducible refine (HIv.out _).mono ?_); rintro e w' ⟨rfl, rfl⟩)))
                  go_ret
                  exact ⟨by rw [hx.out]; rfl, HBn.out _⟩
                · have hv1 : (av == -1) = false := by simp [hv]
                  have HU : Hid (∀ W, Calls Try.prog 13 #[.int .i64 au] W fun e w' => e = .returned (.bool true) ∧ W = w') := Lib.hid (fun W => by have := is_any au W; rw [hu] at this; exact this)
                  have HV : Hid (∀ W, Calls Try.prog 13 #[.int .i64 av] W fun e w' => e = .returned (.bool true) ∧ W = w') := Lib.hid (fun W => by have := is_any av W; rw [hV] at this; exact this)
                  have HIu : Hid (∀ n, Calls Try.prog 16 #[.slice (some ⟨b, off, none⟩) l.length c, .int .i64 au] ((wr.alloc (.cells #[.int .i64 au, .int .i64 av, .int .u64 aw] 41)).drewN n) fun e w' => e = .returned (.bool false) ∧ ((wr.alloc (.cells #[.int .i64 au, .int .i64 av, .int .u64 aw] 41)).drewN n) = w') := Lib.hid (fun n => by have := HIn.out n au; rw [hI] at this; exact this)
                  have HIv : Hid (∀ n, Calls Try.prog 16 #[.slice (some ⟨b, off, none⟩) l.length c, .int .i64 av] ((wr.alloc (.cells #[.int .i64 au, .int .i64 av, .int .u64 aw] 41)).drewN n) fun e w' => e = .returned (.bool true) ∧ ((wr.alloc (.cells #[.int .i64 au, .int .i64 av, .int .u64 aw] 41)).drewN n) = w') := Lib.hid (fun n => by have := HIn.out n av; rw [hJ] at this; exact this)
                  have hx := Lib.hid (not_row HAL.out (fun r => by have := r.2.2.2.1; rw [hI] at this; cases this))
                  clear hu hV hI hJ
                  go_wp2
                  go_quiet (fail)
                  go_wp2_with (first
                    | (go_at_call 13; ((with_reducible refine (HU.out _).mono ?_); rintro e w' ⟨rfl, rfl⟩))
                    | (go_at_call 13; ((with_reducible refine (HV.out _).mono ?_); rintro e w' ⟨rfl, rfl⟩))
                    | (go_at_call 16; ((with_reducible refine (HIu.out _).mono ?_); rintro e w' ⟨rfl, rfl⟩))
                    | (go_at_call 16; ((with_reducible refine (HIv.out _).mono ?_); rintro e w' ⟨rfl, rfl⟩)))
                  go_ret
                  exact ⟨by rw [hx.out]; rfl, HBn.out _⟩
              · cases hJ : inB l av
                · have hv1 : (av == -1) = false := by simp [hv]
                  have HU : Hid (∀ W, Calls Try.prog 13 #[.int .i64 au] W fun e w' => e = .returned (.bool true) ∧ W = w') := Lib.hid (fun W => by have := is_any au W; rw [hu] at this; exact this)
                  have HV : Hid (∀ W, Calls Try.prog 13 #[.int .i64 av] W fun e w' => e = .returned (.bool true) ∧ W = w') := Lib.hid (fun W => by have := is_any av W; rw [hV] at this; exact this)
                  have HIu : Hid (∀ n, Calls Try.prog 16 #[.slice (some ⟨b, off, none⟩) l.length c, .int .i64 au] ((wr.alloc (.cells #[.int .i64 au, .int .i64 av, .int .u64 aw] 41)).drewN n) fun e w' => e = .returned (.bool true) ∧ ((wr.alloc (.cells #[.int .i64 au, .int .i64 av, .int .u64 aw] 41)).drewN n) = w') := Lib.hid (fun n => by have := HIn.out n au; rw [hI] at this; exact this)
                  have HIv : Hid (∀ n, Calls Try.prog 16 #[.slice (some ⟨b, off, none⟩) l.length c, .int .i64 av] ((wr.alloc (.cells #[.int .i64 au, .int .i64 av, .int .u64 aw] 41)).drewN n) fun e w' => e = .returned (.bool false) ∧ ((wr.alloc (.cells #[.int .i64 au, .int .i64 av, .int .u64 aw] 41)).drewN n) = w') := Lib.hid (fun n => by have := HIn.out n av; rw [hJ] at this; exact this)
                  have hx := Lib.hid (not_row HAL.out (fun r => by have := r.2.2.2.2 hv; rw [hJ] at this; cases this))
                  clear hu hV hI hJ
                  go_wp2
                  go_quiet (fail)
                  go_wp2_with (first
                    | (go_at_call 13; ((with_reducible refine (HU.out _).mono ?_); rintro e w' ⟨rfl, rfl⟩))
                    | (go_at_call 13; ((with_reducible refine (HV.out _).mono ?_); rintro e w' ⟨rfl, rfl⟩))
                    | (go_at_call 16; ((with_reducible refine (HIu.out _).mono ?_); rintro e w' ⟨rfl, rfl⟩))
                    | (go_at_call 16; ((with_reducible refine (HIv.out _).mono ?_); rintro e w' ⟨rfl, rfl⟩)))
                  go_ret
                  exact ⟨by rw [hx.out]; rfl, HBn.out _⟩
                · have hv1 : (av == -1) = false := by simp [hv]
                  have HU : Hid (∀ W, Calls Try.prog 13 #[.int .i64 au] W fun e w' => e = .returned (.bool true) ∧ W = w') := Lib.hid (fun W => by have := is_any au W; rw [hu] at this; exact this)
                  have HV : Hid (∀ W, Calls Try.prog 13 #[.int .i64 av] W fun e w' => e = .returned (.bool true) ∧ W = w') := Lib.hid (fun W => by have := is_any av W; rw [hV] at this; exact this)
                  have HIu : Hid (∀ n, Calls Try.prog 16 #[.slice (some ⟨b, off, none⟩) l.length c, .int .i64 au] ((wr.alloc (.cells #[.int .i64 au, .int .i64 av, .int .u64 aw] 41)).drewN n) fun e w' => e = .returned (.bool true) ∧ ((wr.alloc (.cells #[.int .i64 au, .int .i64 av, .int .u64 aw] 41)).drewN n) = w') := Lib.hid (fun n => by have := HIn.out n au; rw [hI] at this; exact this)
                  have HIv : Hid (∀ n, Calls Try.prog 16 #[.slice (some ⟨b, off, none⟩) l.length c, .int .i64 av] ((wr.alloc (.cells #[.int .i64 au, .int .i64 av, .int .u64 aw] 41)).drewN n) fun e w' => e = .returned (.bool true) ∧ ((wr.alloc (.cells #[.int .i64 au, .int .i64 av, .int .u64 aw] 41)).drewN n) = w') := Lib.hid (fun n => by have := HIn.out n av; rw [hJ] at this; exact this)
                  have hok := Lib.hid (HO.out ⟨hu, fun h => absurd h hv, fun _ => hV, hI, fun _ => hJ⟩)
                  clear hu hV hI hJ
                  go_wp2
                  go_quiet (fail)
                  go_wp2_with (first
                    | (go_at_call 13; ((with_reducible refine (HU.out _).mono ?_); rintro e w' ⟨rfl, rfl⟩))
                    | (go_at_call 13; ((with_reducible refine (HV.out _).mono ?_); rintro e w' ⟨rfl, rfl⟩))
                    | (go_at_call 16; ((with_reducible refine (HIu.out _).mono ?_); rintro e w' ⟨rfl, rfl⟩))
                    | (go_at_call 16; ((with_reducible refine (HIv.out _).mono ?_); rintro e w' ⟨rfl, rfl⟩)))
                  first
                    | (refine ⟨⟨i + 1, by omega, by go_num, ok_step HA.out hok.out, HBn.out _⟩, by simp [intOf]; omega⟩)
                    | (go_roundw
                       case rel => exact ⟨i + 1, by omega, by go_num, ok_step HA.out hok.out, HBn.out _⟩
                       case measure => simp [intOf]; omega)
      · obtain ⟨p, hp⟩ : ∃ p, l[i - 1]? = some p := ⟨_, List.getElem?_eq_getElem (by omega)⟩
        have hd : decide ((0 : Int) < (i : Int)) = true := by simp; omega
        have hd2 : decide (0 < i) = true := by simp; omega
        obtain ⟨d1, d2, d3⟩ := HCS.out (i - 1) p hp
        have blt := World.block_lt_of_cell? wr _ d1
        have p1 := (bA.out.cell (p := ⟨b, off + (i - 1) * 3, none⟩) blt).trans d1
        have p2 := (bA.out.cell (p := ⟨b, off + (i - 1) * 3 + 1, none⟩) blt).trans d2
        have HP := Lib.hid hp
        have n1 : IntKind.i64.wrap ((i : Int) - 1) = (i : Int) - 1 := by rw [IntKind.wrap_i64]; omega
        have n2 : ((i : Int) - 1).toNat = i - 1 := by omega
        have n3 : (0 : Int) ≤ (i : Int) - 1 := by omega
        have n4 : (i : Int) - 1 < (l.length : Int) := by omega
        clear HCS d1 d2 d3 hp
        by_cases o1 : au < p.u
        · have g1 : decide (au < p.u) = true := by simp [o1]
          have hx := Lib.hid (not_order (by omega) HAL.out HP.out (by unfold Lt; simp only; omega))
          clear o1
          go_wp2
          go_quiet (fail)
          go_wp2
          go_ret
          exact ⟨by rw [hx.out]; rfl, HBn.out _⟩
        · have g1 : decide (au < p.u) = false := by simp; omega
          by_cases o2 : p.u = au
          · have g2 : (p.u == au) = true := by simp [o2]
            by_cases o3 : av ≤ p.v
            · have g3 : decide (av ≤ p.v) = true := by simp [o3]
              have hx := Lib.hid (not_order (by omega) HAL.out HP.out (by unfold Lt; simp only; omega))
              clear o1 o2 o3
              go_wp2
              go_quiet (fail)
              go_wp2
              go_ret
              exact ⟨by rw [hx.out]; rfl, HBn.out _⟩
            · have g3 : decide (av ≤ p.v) = false := by simp; omega
              have HO := Lib.hid (ok_next HAL.out HP.out (by unfold Lt; simp only; omega))
              clear o1 o2 o3
              cases hu : isV au
              · have HU : Hid (∀ W, Calls Try.prog 13 #[.int .i64 au] W fun e w' => e = .returned (.bool false) ∧ W = w') := Lib.hid (fun W => by have := is_any au W; rw [hu] at this; exact this)
                have HV : Hid (∀ W, Calls Try.prog 13 #[.int .i64 av] W fun e w' => e = .returned (.bool (isV av)) ∧ W = w') := Lib.hid (fun W => is_any av W)
                have hx := Lib.hid (not_row HAL.out (fun r => by have := r.1; rw [hu] at this; cases this))
                clear hu
                go_wp2
                go_quiet (fail)
                go_wp2_with (first
                  | (go_at_call 13; ((with_reducible refine (HU.out _).mono ?_); rintro e w' ⟨rfl, rfl⟩))
                  | (go_at_call 13; ((with_reducible refine (HV.out _).mono ?_); rintro e w' ⟨rfl, rfl⟩)))
                go_ret
                exact ⟨by rw [hx.out]; rfl, HBn.out _⟩
              · by_cases hv : av = -1
                · by_cases hw : aw = 0
                  · cases hI : inB l au
                    · have HU : Hid (∀ W, Calls Try.prog 13 #[.int .i64 au] W fun e w' => e = .returned (.bool true) ∧ W = w') := Lib.hid (fun W => by have := is_any au W; rw [hu] at this; exact this)
                      have HV : Hid (∀ W, Calls Try.prog 13 #[.int .i64 av] W fun e w' => e = .returned (.bool (isV av)) ∧ W = w') := Lib.hid (fun W => is_any av W)
                      have HIu : Hid (∀ n, Calls Try.prog 16 #[.slice (some ⟨b, off, none⟩) l.length c, .int .i64 au] ((wr.alloc (.cells #[.int .i64 au, .int .i64 av, .int .u64 aw] 41)).drewN n) fun e w' => e = .returned (.bool false) ∧ ((wr.alloc (.cells #[.int .i64 au, .int .i64 av, .int .u64 aw] 41)).drewN n) = w') := Lib.hid (fun n => by have := HIn.out n au; rw [hI] at this; exact this)
                      have hx := Lib.hid (not_row HAL.out (fun r => by have := r.2.2.2.1; rw [hI] at this; cases this))
                      clear hu hI
                      subst hv
                      subst hw
                      go_wp2
                      go_quiet (fail)
                      go_wp2_with (first
                        | (go_at_call 13; ((with_reducible refine (HU.out _).mono ?_); rintro e w' ⟨rfl, rfl⟩))
                        | (go_at_call 13; ((with_reducible refine (HV.out _).mono ?_); rintro e w' ⟨rfl, rfl⟩))
                        | (go_at_call 16; ((with_reducible refine (HIu.out _).mono ?_); rintro e w' ⟨rfl, rfl⟩)))
                      go_ret
                      exact ⟨by rw [hx.out]; rfl, HBn.out _⟩
                    · have HU : Hid (∀ W, Calls Try.prog 13 #[.int .i64 au] W fun e w' => e = .returned (.bool true) ∧ W = w') := Lib.hid (fun W => by have := is_any au W; rw [hu] at this; exact this)
                      have HV : Hid (∀ W, Calls Try.prog 13 #[.int .i64 av] W fun e w' => e = .returned (.bool (isV av)) ∧ W = w') := Lib.hid (fun W => is_any av W)
                      have HIu : Hid (∀ n, Calls Try.prog 16 #[.slice (some ⟨b, off, none⟩) l.length c, .int .i64 au] ((wr.alloc (.cells #[.int .i64 au, .int .i64 av, .int .u64 aw] 41)).drewN n) fun e w' => e = .returned (.bool true) ∧ ((wr.alloc (.cells #[.int .i64 au, .int .i64 av, .int .u64 aw] 41)).drewN n) = w') := Lib.hid (fun n => by have := HIn.out n au; rw [hI] at this; exact this)
                      have hok := Lib.hid (HO.out ⟨hu, fun _ => hw, fun h => absurd hv h, hI, fun h => absurd hv h⟩)
                      clear hu hI
                      subst hv
                      subst hw
                      go_wp2
                      go_quiet (fail)
                      go_wp2_with (first
                        | (go_at_call 13; ((with_reducible refine (HU.out _).mono ?_); rintro e w' ⟨rfl, rfl⟩))
                        | (go_at_call 13; ((with_reducible refine (HV.out _).mono ?_); rintro e w' ⟨rfl, rfl⟩))
                        | (go_at_call 16; ((with_reducible refine (HIu.out _).mono ?_); rintro e w' ⟨rfl, rfl⟩)))
                      first
                        | (refine ⟨⟨i + 1, by omega, by go_num, ok_step HA.out hok.out, HBn.out _⟩, by simp [intOf]; omega⟩)
                        | (go_roundw
                           case rel => exact ⟨i + 1, by omega, by go_num, ok_step HA.out hok.out, HBn.out _⟩
                           case measure => simp [intOf]; omega)
                  · have hw1 : (aw == 0) = false := by simp [hw]
                    have hw2 : ¬ aw = 0 := hw
                    have HU : Hid (∀ W, Calls Try.prog 13 #[.int .i64 au] W fun e w' => e = .returned (.bool true) ∧ W = w') := Lib.hid (fun W => by have := is_any au W; rw [hu] at this; exact this)
                    have HV : Hid (∀ W, Calls Try.prog 13 #[.int .i64 av] W fun e w' => e = .returned (.bool (isV av)) ∧ W = w') := Lib.hid (fun W => is_any av W)
                    have hx := Lib.hid (not_row HAL.out (fun r => hw (r.2.1 hv)))
                    clear hu
                    subst hv
                    go_wp2
                    go_quiet (fail)
                    go_wp2_with (first
                      | (go_at_call 13; ((with_reducible refine (HU.out _).mono ?_); rintro e w' ⟨rfl, rfl⟩))
                      | (go_at_call 13; ((with_reducible refine (HV.out _).mono ?_); rintro e w' ⟨rfl, rfl⟩)))
                    go_ret
                    exact ⟨by rw [hx.out]; rfl, HBn.out _⟩
                · cases hV : isV av
                  · have hv1 : (av == -1) = false := by simp [hv]
                    have HU : Hid (∀ W, Calls Try.prog 13 #[.int .i64 au] W fun e w' => e = .returned (.bool true) ∧ W = w') := Lib.hid (fun W => by have := is_any au W; rw [hu] at this; exact this)
                    have HV : Hid (∀ W, Calls Try.prog 13 #[.int .i64 av] W fun e w' => e = .returned (.bool false) ∧ W = w') := Lib.hid (fun W => by have := is_any av W; rw [hV] at this; exact this)
                    have hx := Lib.hid (not_row HAL.out (fun r => by have := r.2.2.1 hv; rw [hV] at this; cases this))
                    clear hu hV
                    go_wp2
                    go_quiet (fail)
                    go_wp2_with (first
                      | (go_at_call 13; ((with_reducible refine (HU.out _).mono ?_); rintro e w' ⟨rfl, rfl⟩))
                      | (go_at_call 13; ((with_reducible refine (HV.out _).mono ?_); rintro e w' ⟨rfl, rfl⟩)))
                    go_ret
                    exact ⟨by rw [hx.out]; rfl, HBn.out _⟩
                  · cases hI : inB l au
                    · cases hJ : inB l av
                      · have hv1 : (av == -1) = false := by simp [hv]
                        have HU : Hid (∀ W, Calls Try.prog 13 #[.int .i64 au] W fun e w' => e = .returned (.bool true) ∧ W = w') := Lib.hid (fun W => by have := is_any au W; rw [hu] at this; exact this)
                        have HV : Hid (∀ W, Calls Try.prog 13 #[.int .i64 av] W fun e w' => e = .returned (.bool true) ∧ W = w') := Lib.hid (fun W => by have := is_any av W; rw [hV] at this; exact this)
                        have HIu : Hid (∀ n, Calls Try.prog 16 #[.slice (some ⟨b, off, none⟩) l.length c, .int .i64 au] ((wr.alloc (.cells #[.int .i64 au, .int .i64 av, .int .u64 aw] 41)).drewN n) fun e w' => e = .returned (.bool false) ∧ ((wr.alloc (.cells #[.int .i64 au, .int .i64 av, .int .u64 aw] 41)).drewN n) = w') := Lib.hid (fun n => by have := HIn.out n au; rw [hI] at this; exact this)
                        have HIv : Hid (∀ n, Calls Try.prog 16 #[.slice (some ⟨b, off, none⟩) l.length c, .int .i64 av] ((wr.alloc (.cells #[.int .i64 au, .int .i64 av, .int .u64 aw] 41)).drewN n) fun e w' => e = .returned (.bool false) ∧ ((wr.alloc (.cells #[.int .i64 au, .int .i64 av, .int .u64 aw] 41)).drewN n) = w') := Lib.hid (fun n => by have := HIn.out n av; rw [hJ] at this; exact this)
                        have hx := Lib.hid (not_row HAL.out (fun r => by have := r.2.2.2.1; rw [hI] at this; cases this))
                        clear hu hV hI hJ
                        go_wp2
                        go_quiet (fail)
                        go_wp2_with (first
                          | (go_at_call 13; ((with_reducible refine (HU.out _).mono ?_); rintro e w' ⟨rfl, rfl⟩))
                          | (go_at_call 13; ((with_reducible refine (HV.out _).mono ?_); rintro e w' ⟨rfl, rfl⟩))
                          | (go_at_call 16; ((with_reducible refine (HIu.out _).mono ?_); rintro e w' ⟨rfl, rfl⟩))
                          | (go_at_call 16; ((with_reducible refine (HIv.out _).mono ?_); rintro e w' ⟨rfl, rfl⟩)))
                        go_ret
                        exact ⟨by rw [hx.out]; rfl, HBn.out _⟩
                      · have hv1 : (av == -1) = false := by simp [hv]
                        have HU : Hid (∀ W, Calls Try.prog 13 #[.int .i64 au] W fun e w' => e = .returned (.bool true) ∧ W = w') := Lib.hid (fun W => by have := is_any au W; rw [hu] at this; exact this)
                        have HV : Hid (∀ W, Calls Try.prog 13 #[.int .i64 av] W fun e w' => e = .returned (.bool true) ∧ W = w') := Lib.hid (fun W => by have := is_any av W; rw [hV] at this; exact this)
                        have HIu : Hid (∀ n, Calls Try.prog 16 #[.slice (some ⟨b, off, none⟩) l.length c, .int .i64 au] ((wr.alloc (.cells #[.int .i64 au, .int .i64 av, .int .u64 aw] 41)).drewN n) fun e w' => e = .returned (.bool false) ∧ ((wr.alloc (.cells #[.int .i64 au, .int .i64 av, .int .u64 aw] 41)).drewN n) = w') := Lib.hid (fun n => by have := HIn.out n au; rw [hI] at this; exact this)
                        have HIv : Hid (∀ n, Calls Try.prog 16 #[.slice (some ⟨b, off, none⟩) l.length c, .int .i64 av] ((wr.alloc (.cells #[.int .i64 au, .int .i64 av, .int .u64 aw] 41)).drewN n) fun e w' => e = .returned (.bool true) ∧ ((wr.alloc (.cells #[.int .i64 au, .int .i64 av, .int .u64 aw] 41)).drewN n) = w') := Lib.hid (fun n => by have := HIn.out n av; rw [hJ] at this; exact this)
                        have hx := Lib.hid (not_row HAL.out (fun r => by have := r.2.2.2.1; rw [hI] at this; cases this))
                        clear hu hV hI hJ
                        go_wp2
                        go_quiet (fail)
                        go_wp2_with (first
                          | (go_at_call 13; ((with_reducible refine (HU.out _).mono ?_); rintro e w' ⟨rfl, rfl⟩))
                          | (go_at_call 13; ((with_reducible refine (HV.out _).mono ?_); rintro e w' ⟨rfl, rfl⟩))
                          | (go_at_call 16; ((with_reducible refine (HIu.out _).mono ?_); rintro e w' ⟨rfl, rfl⟩))
                          | (go_at_call 16; ((with_reducible refine (HIv.out _).mono ?_); rintro e w' ⟨rfl, rfl⟩)))
                        go_ret
                        exact ⟨by rw [hx.out]; rfl, HBn.out _⟩
                    · cases hJ : inB l av
                      · have hv1 : (av == -1) = false := by simp [hv]
                        have HU : Hid (∀ W, Calls Try.prog 13 #[.int .i64 au] W fun e w' => e = .returned (.bool true) ∧ W = w') := Lib.hid (fun W => by have := is_any au W; rw [hu] at this; exact this)
                        have HV : Hid (∀ W, Calls Try.prog 13 #[.int .i64 av] W fun e w' => e = .returned (.bool true) ∧ W = w') := Lib.hid (fun W => by have := is_any av W; rw [hV] at this; exact this)
                        have HIu : Hid (∀ n, Calls Try.prog 16 #[.slice (some ⟨b, off, none⟩) l.length c, .int .i64 au] ((wr.alloc (.cells #[.int .i64 au, .int .i64 av, .int .u64 aw] 41)).drewN n) fun e w' => e = .returned (.bool true) ∧ ((wr.alloc (.cells #[.int .i64 au, .int .i64 av, .int .u64 aw] 41)).drewN n) = w') := Lib.hid (fun n => by have := HIn.out n au; rw [hI] at this; exact this)
                        have HIv : Hid (∀ n, Calls Try.prog 16 #[.slice (some ⟨b, off, none⟩) l.length c, .int .i64 av] ((wr.alloc (.cells #[.int .i64 au, .int .i64 av, .int .u64 aw] 41)).drewN n) fun e w' => e = .returned (.bool false) ∧ ((wr.alloc (.cells #[.int .i64 au, .int .i64 av, .int .u64 aw] 41)).drewN n) = w') := Lib.hid (fun n => by have := HIn.out n av; rw [hJ] at this; exact this)
                        have hx := Lib.hid (not_row HAL.out (fun r => by have := r.2.2.2.2 hv; rw [hJ] at this; cases this))
                        clear hu hV hI hJ
                        go_wp2
                        go_quiet (fail)
                        go_wp2_with (first
                          | (go_at_call 13; ((with_reducible refine (HU.out _).mono ?_); rintro e w' ⟨rfl, rfl⟩))
                          | (go_at_call 13; ((with_reducible refine (HV.out _).mono ?_); rintro e w' ⟨rfl, rfl⟩))
                          | (go_at_call 16; ((with_reducible refine (HIu.out _).mono ?_); rintro e w' ⟨rfl, rfl⟩))
                          | (go_at_call 16; ((with_reducible refine (HIv.out _).mono ?_); rintro e w' ⟨rfl, rfl⟩)))
                        go_ret
                        exact ⟨by rw [hx.out]; rfl, HBn.out _⟩
                      · have hv1 : (av == -1) = false := by simp [hv]
                        have HU : Hid (∀ W, Calls Try.prog 13 #[.int .i64 au] W fun e w' => e = .returned (.bool true) ∧ W = w') := Lib.hid (fun W => by have := is_any au W; rw [hu] at this; exact this)
                        have HV : Hid (∀ W, Calls Try.prog 13 #[.int .i64 av] W fun e w' => e = .returned (.bool true) ∧ W = w') := Lib.hid (fun W => by have := is_any av W; rw [hV] at this; exact this)
                        have HIu : Hid (∀ n, Calls Try.prog 16 #[.slice (some ⟨b, off, none⟩) l.length c, .int .i64 au] ((wr.alloc (.cells #[.int .i64 au, .int .i64 av, .int .u64 aw] 41)).drewN n) fun e w' => e = .returned (.bool true) ∧ ((wr.alloc (.cells #[.int .i64 au, .int .i64 av, .int .u64 aw] 41)).drewN n) = w') := Lib.hid (fun n => by have := HIn.out n au; rw [hI] at this; exact this)
                        have HIv : Hid (∀ n, Calls Try.prog 16 #[.slice (some ⟨b, off, none⟩) l.length c, .int .i64 av] ((wr.alloc (.cells #[.int .i64 au, .int .i64 av, .int .u64 aw] 41)).drewN n) fun e w' => e = .returned (.bool true) ∧ ((wr.alloc (.cells #[.int .i64 au, .int .i64 av, .int .u64 aw] 41)).drewN n) = w') := Lib.hid (fun n => by have := HIn.out n av; rw [hJ] at this; exact this)
                        have hok := Lib.hid (HO.out ⟨hu, fun h => absurd h hv, fun _ => hV, hI, fun _ => hJ⟩)
                        clear hu hV hI hJ
                        go_wp2
                        go_quiet (fail)
                        go_wp2_with (first
                          | (go_at_call 13; ((with_reducible refine (HU.out _).mono ?_); rintro e w' ⟨rfl, rfl⟩))
                          | (go_at_call 13; ((with_reducible refine (HV.out _).mono ?_); rintro e w' ⟨rfl, rfl⟩))
                          | (go_at_call 16; ((with_reducible refine (HIu.out _).mono ?_); rintro e w' ⟨rfl, rfl⟩))
                          | (go_at_call 16; ((with_reducible refine (HIv.out _).mono ?_); rintro e w' ⟨rfl, rfl⟩)))
                        first
                          | (refine ⟨⟨i + 1, by omega, by go_num, ok_step HA.out hok.out, HBn.out _⟩, by simp [intOf]; omega⟩)
                          | (go_roundw
                             case rel => exact ⟨i + 1, by omega, by go_num, ok_step HA.out hok.out, HBn.out _⟩
                             case measure => simp [intOf]; omega)
          · have g2 : (p.u == au) = false := by simp [o2]
            have HO := Lib.hid (ok_next HAL.out HP.out (by unfold Lt; simp only; omega))
            clear o1 o2
            cases hu : isV au
            · have HU : Hid (∀ W, Calls Try.prog 13 #[.int .i64 au] W fun e w' => e = .returned (.bool false) ∧ W = w') := Lib.hid (fun W => by have := is_any au W; rw [hu] at this; exact this)
              have HV : Hid (∀ W, Calls Try.prog 13 #[.int .i64 av] W fun e w' => e = .returned (.bool (isV av)) ∧ W = w') := Lib.hid (fun W => is_any av W)
              have hx := Lib.hid (not_row HAL.out (fun r => by have := r.1; rw [hu] at this; cases this))
              clear hu
              go_wp2
              go_quiet (fail)
              go_wp2_with (first
                | (go_at_call 13; ((with_reducible refine (HU.out _).mono ?_); rintro e w' ⟨rfl, rfl⟩))
                | (go_at_call 13; ((with_reducible refine (HV.out _).mono ?_); rintro e w' ⟨rfl, rfl⟩)))
              go_ret
              exact ⟨by rw [hx.out]; rfl, HBn.out _⟩
            · by_cases hv : av = -1
              · by_cases hw : aw = 0
                · cases hI : inB l au
                  · have HU : Hid (∀ W, Calls Try.prog 13 #[.int .i64 au] W fun e w' => e = .returned (.bool true) ∧ W = w') := Lib.hid (fun W => by have := is_any au W; rw [hu] at this; exact this)
                    have HV : Hid (∀ W, Calls Try.prog 13 #[.int .i64 av] W fun e w' => e = .returned (.bool (isV av)) ∧ W = w') := Lib.hid (fun W => is_any av W)
                    have HIu : Hid (∀ n, Calls Try.prog 16 #[.slice (some ⟨b, off, none⟩) l.length c, .int .i64 au] ((wr.alloc (.cells #[.int .i64 au, .int .i64 av, .int .u64 aw] 41)).drewN n) fun e w' => e = .returned (.bool false) ∧ ((wr.alloc (.cells #[.int .i64 au, .int .i64 av, .int .u64 aw] 41)).drewN n) = w') := Lib.hid (fun n => by have := HIn.out n au; rw [hI] at this; exact this)
                    have hx := Lib.hid (not_row HAL.out (fun r => by have := r.2.2.2.1; rw [hI] at this; cases this))
                    clear hu hI
                    subst hv
                    subst hw
                    go_wp2
                    go_quiet (fail)
                    go_wp2_with (first
                      | (go_at_call 13; ((with_reducible refine (HU.out _).mono ?_); rintro e w' ⟨rfl, rfl⟩))
                      | (go_at_call 13; ((with_reducible refine (HV.out _).mono ?_); rintro e w' ⟨rfl, rfl⟩))
                      | (go_at_call 16; ((with_reducible refine (HIu.out _).mono ?_); rintro e w' ⟨rfl, rfl⟩)))
                    go_ret
                    exact ⟨by rw [hx.out]; rfl, HBn.out _⟩
                  · have HU : Hid (∀ W, Calls Try.prog 13 #[.int .i64 au] W fun e w' => e = .returned (.bool true) ∧ W = w') := Lib.hid (fun W => by have := is_any au W; rw [hu] at this; exact this)
                    have HV : Hid (∀ W, Calls Try.prog 13 #[.int .i64 av] W fun e w' => e = .returned (.bool (isV av)) ∧ W = w') := Lib.hid (fun W => is_any av W)
                    have HIu : Hid (∀ n, Calls Try.prog 16 #[.slice (some ⟨b, off, none⟩) l.length c, .int .i64 au] ((wr.alloc (.cells #[.int .i64 au, .int .i64 av, .int .u64 aw] 41)).drewN n) fun e w' => e = .returned (.bool true) ∧ ((wr.alloc (.cells #[.int .i64 au, .int .i64 av, .int .u64 aw] 41)).drewN n) = w') := Lib.hid (fun n => by have := HIn.out n au; rw [hI] at this; exact this)
                    have hok := Lib.hid (HO.out ⟨hu, fun _ => hw, fun h => absurd hv h, hI, fun h => absurd hv h⟩)
                    clear hu hI
                    subst hv
                    subst hw
                    go_wp2
                    go_quiet (fail)
                    go_wp2_with (first
                      | (go_at_call 13; ((with_reducible refine (HU.out _).mono ?_); rintro e w' ⟨rfl, rfl⟩))
                      | (go_at_call 13; ((with_reducible refine (HV.out _).mono ?_); rintro e w' ⟨rfl, rfl⟩))
                      | (go_at_call 16; ((with_reducible refine (HIu.out _).mono ?_); rintro e w' ⟨rfl, rfl⟩)))
                    first
                      | (refine ⟨⟨i + 1, by omega, by go_num, ok_step HA.out hok.out, HBn.out _⟩, by simp [intOf]; omega⟩)
                      | (go_roundw
                         case rel => exact ⟨i + 1, by omega, by go_num, ok_step HA.out hok.out, HBn.out _⟩
                         case measure => simp [intOf]; omega)
                · have hw1 : (aw == 0) = false := by simp [hw]
                  have hw2 : ¬ aw = 0 := hw
                  have HU : Hid (∀ W, Calls Try.prog 13 #[.int .i64 au] W fun e w' => e = .returned (.bool true) ∧ W = w') := Lib.hid (fun W => by have := is_any au W; rw [hu] at this; exact this)
                  have HV : Hid (∀ W, Calls Try.prog 13 #[.int .i64 av] W fun e w' => e = .returned (.bool (isV av)) ∧ W = w') := Lib.hid (fun W => is_any av W)
                  have hx := Lib.hid (not_row HAL.out (fun r => hw (r.2.1 hv)))
                  clear hu
                  subst hv
                  go_wp2
                  go_quiet (fail)
                  go_wp2_with (first
                    | (go_at_call 13; ((with_reducible refine (HU.out _).mono ?_); rintro e w' ⟨rfl, rfl⟩))
                    | (go_at_call 13; ((with_reducible refine (HV.out _).mono ?_); rintro e w' ⟨rfl, rfl⟩)))
                  go_ret
                  exact ⟨by rw [hx.out]; rfl, HBn.out _⟩
              · cases hV : isV av
                · have hv1 : (av == -1) = false := by simp [hv]
                  have HU : Hid (∀ W, Calls Try.prog 13 #[.int .i64 au] W fun e w' => e = .returned (.bool true) ∧ W = w') := Lib.hid (fun W => by have := is_any au W; rw [hu] at this; exact this)
                  have HV : Hid (∀ W, Calls Try.prog 13 #[.int .i64 av] W fun e w' => e = .returned (.bool false) ∧ W = w') := Lib.hid (fun W => by have := is_any av W; rw [hV] at this; exact this)
                  have hx := Lib.hid (not_row HAL.out (fun r => by have := r.2.2.1 hv; rw [hV] at this; cases this))
                  clear hu hV
                  go_wp2
                  go_quiet (fail)
                  go_wp2_with (first
                    | (go_at_call 13; ((with_reducible refine (HU.out _).mono ?_); rintro e w' ⟨rfl, rfl⟩))
                    | (go_at_call 13; ((with_reducible refine (HV.out _).mono ?_); rintro e w' ⟨rfl, rfl⟩)))
                  go_ret
                  exact ⟨by rw [hx.out]; rfl, HBn.out _⟩
                · cases hI : inB l au
                  · cases hJ : inB l av
                    · have hv1 : (av == -1) = false := by simp [hv]
                      have HU : Hid (∀ W, Calls Try.prog 13 #[.int .i64 au] W fun e w' => e = .returned (.bool true) ∧ W = w') := Lib.hid (fun W => by have := is_any au W; rw [hu] at this; exact this)
                      have HV : Hid (∀ W, Calls Try.prog 13 #[.int .i64 av] W fun e w' => e = .returned (.bool true) ∧ W = w') := Lib.hid (fun W => by have := is_any av W; rw [hV] at this; exact this)
                      have HIu : Hid (∀ n, Calls Try.prog 16 #[.slice (some ⟨b, off, none⟩) l.length c, .int .i64 au] ((wr.alloc (.cells #[.int .i64 au, .int .i64 av, .int .u64 aw] 41)).drewN n) fun e w' => e = .returned (.bool false) ∧ ((wr.alloc (.cells #[.int .i64 au, .int .i64 av, .int .u64 aw] 41)).drewN n) = w') := Lib.hid (fun n => by have := HIn.out n au; rw [hI] at this; exact this)
                      have HIv : Hid (∀ n, Calls Try.prog 16 #[.slice (some ⟨b, off, none⟩) l.length c, .int .i64 av] ((wr.alloc (.cells #[.int .i64 au, .int .i64 av, .int .u64 aw] 41)).drewN n) fun e w' => e = .returned (.bool false) ∧ ((wr.alloc (.cells #[.int .i64 au, .int .i64 av, .int .u64 aw] 41)).drewN n) = w') := Lib.hid (fun n => by have := HIn.out n av; rw [hJ] at this; exact this)
                      have hx := Lib.hid (not_row HAL.out (fun r => by have := r.2.2.2.1; rw [hI] at this; cases this))
                      clear hu hV hI hJ
                      go_wp2
                      go_quiet (fail)
                      go_wp2_with (first
                        | (go_at_call 13; ((with_reducible refine (HU.out _).mono ?_); rintro e w' ⟨rfl, rfl⟩))
                        | (go_at_call 13; ((with_reducible refine (HV.out _).mono ?_); rintro e w' ⟨rfl, rfl⟩))
                        | (go_at_call 16; ((with_reducible refine (HIu.out _).mono ?_); rintro e w' ⟨rfl, rfl⟩))
                        | (go_at_call 16; ((with_reducible refine (HIv.out _).mono ?_); rintro e w' ⟨rfl, rfl⟩)))
                      go_ret
                      exact ⟨by rw [hx.out]; rfl, HBn.out _⟩
                    · have hv1 : (av == -1) = false := by simp [hv]
                      have HU : Hid (∀ W, Calls Try.prog 13 #[.int .i64 au] W fun e w' => e = .returned (.bool true) ∧ W = w') := Lib.hid (fun W => by have := is_any au W; rw [hu] at this; exact this)
                      have HV : Hid (∀ W, Calls Try.prog 13 #[.int .i64 av] W fun e w' => e = .returned (.bool true) ∧ W = w') := Lib.hid (fun W => by have := is_any av W; rw [hV] at this; exact this)
                      have HIu : Hid (∀ n, Calls Try.prog 16 #[.slice (some ⟨b, off, none⟩) l.length c, .int .i64 au] ((wr.alloc (.cells #[.int .i64 au, .int .i64 av, .int .u64 aw] 41)).drewN n) fun e w' => e = .returned (.bool false) ∧ ((wr.alloc (.cells #[.int .i64 au, .int .i64 av, .int .u64 aw] 41)).drewN n) = w') := Lib.hid (fun n => by have := HIn.out n au; rw [hI] at this; exact this)
                      have HIv : Hid (∀ n, Calls Try.prog 16 #[.slice (some ⟨b, off, none⟩) l.length c, .int .i64 av] ((wr.alloc (.cells #[.int .i64 au, .int .i64 av, .int .u64 aw] 41)).drewN n) fun e w' => e = .returned (.bool true) ∧ ((wr.alloc (.cells #[.int .i64 au, .int .i64 av, .int .u64 aw] 41)).drewN n) = w') := Lib.hid (fun n => by have := HIn.out n av; rw [hJ] at this; exact this)
                      have hx := Lib.hid (not_row HAL.out (fun r => by have := r.2.2.2.1; rw [hI] at this; cases this))
                      clear hu hV hI hJ
                      go_wp2
                      go_quiet (fail)
                      go_wp2_with (first
                        | (go_at_call 13; ((with_reducible refine (HU.out _).mono ?_); rintro e w' ⟨rfl, rfl⟩))
                        | (go_at_call 13; ((with_reducible refine (HV.out _).mono ?_); rintro e w' ⟨rfl, rfl⟩))
                        | (go_at_call 16; ((with_reducible refine (HIu.out _).mono ?_); rintro e w' ⟨rfl, rfl⟩))
                        | (go_at_call 16; ((with_reducible refine (HIv.out _).mono ?_); rintro e w' ⟨rfl, rfl⟩)))
                      go_ret
                      exact ⟨by rw [hx.out]; rfl, HBn.out _⟩
                  · cases hJ : inB l av
                    · have hv1 : (av == -1) = false := by simp [hv]
                      have HU : Hid (∀ W, Calls Try.prog 13 #[.int .i64 au] W fun e w' => e = .returned (.bool true) ∧ W = w') := Lib.hid (fun W => by have := is_any au W; rw [hu] at this; exact this)
                      have HV : Hid (∀ W, Calls Try.prog 13 #[.int .i64 av] W fun e w' => e = .returned (.bool true) ∧ W = w') := Lib.hid (fun W => by have := is_any av W; rw [hV] at this; exact this)
                      have HIu : Hid (∀ n, Calls Try.prog 16 #[.slice (some ⟨b, off, none⟩) l.length c, .int .i64 au] ((wr.alloc (.cells #[.int .i64 au, .int .i64 av, .int .u64 aw] 41)).drewN n) fun e w' => e = .returned (.bool true) ∧ ((wr.alloc (.cells #[.int .i64 au, .int .i64 av, .int .u64 aw] 41)).drewN n) = w') := Lib.hid (fun n => by have := HIn.out n au; rw [hI] at this; exact this)
                      have HIv : Hid (∀ n, Calls Try.prog 16 #[.slice (some ⟨b, off, none⟩) l.length c, .int .i64 av] ((wr.alloc (.cells #[.int .i64 au, .int .i64 av, .int .u64 aw] 41)).drewN n) fun e w' => e = .returned (.bool false) ∧ ((wr.alloc (.cells #[.int .i64 au, .int .i64 av, .int .u64 aw] 41)).drewN n) = w') := Lib.hid (fun n => by have := HIn.out n av; rw [hJ] at this; exact this)
                      have hx := Lib.hid (not_row HAL.out (fun r => by have := r.2.2.2.2 hv; rw [hJ] at this; cases this))
                      clear hu hV hI hJ
                      go_wp2
                      go_quiet (fail)
                      go_wp2_with (first
                        | (go_at_call 13; ((with_reducible refine (HU.out _).mono ?_); rintro e w' ⟨rfl, rfl⟩))
                        | (go_at_call 13; ((with_reducible refine (HV.out _).mono ?_); rintro e w' ⟨rfl, rfl⟩))
                        | (go_at_call 16; ((with_reducible refine (HIu.out _).mono ?_); rintro e w' ⟨rfl, rfl⟩))
                        | (go_at_call 16; ((with_reducible refine (HIv.out _).mono ?_); rintro e w' ⟨rfl, rfl⟩)))
                      go_ret
                      exact ⟨by rw [hx.out]; rfl, HBn.out _⟩
                    · have hv1 : (av == -1) = false := by simp [hv]
                      have HU : Hid (∀ W, Calls Try.prog 13 #[.int .i64 au] W fun e w' => e = .returned (.bool true) ∧ W = w') := Lib.hid (fun W => by have := is_any au W; rw [hu] at this; exact this)
                      have HV : Hid (∀ W, Calls Try.prog 13 #[.int .i64 av] W fun e w' => e = .returned (.bool true) ∧ W = w') := Lib.hid (fun W => by have := is_any av W; rw [hV] at this; exact this)
                      have HIu : Hid (∀ n, Calls Try.prog 16 #[.slice (some ⟨b, off, none⟩) l.length c, .int .i64 au] ((wr.alloc (.cells #[.int .i64 au, .int .i64 av, .int .u64 aw] 41)).drewN n) fun e w' => e = .returned (.bool true) ∧ ((wr.alloc (.cells #[.int .i64 au, .int .i64 av, .int .u64 aw] 41)).drewN n) = w') := Lib.hid (fun n => by have := HIn.out n au; rw [hI] at this; exact this)
                      have HIv : Hid (∀ n, Calls Try.prog 16 #[.slice (some ⟨b, off, none⟩) l.length c, .int .i64 av] ((wr.alloc (.cells #[.int .i64 au, .int .i64 av, .int .u64 aw] 41)).drewN n) fun e w' => e = .returned (.bool true) ∧ ((wr.alloc (.cells #[.int .i64 au, .int .i64 av, .int .u64 aw] 41)).drewN n) = w') := Lib.hid (fun n => by have := HIn.out n av; rw [hJ] at this; exact this)
                      have hok := Lib.hid (HO.out ⟨hu, fun h => absurd h hv, fun _ => hV, hI, fun _ => hJ⟩)
                      clear hu hV hI hJ
                      go_wp2
                      go_quiet (fail)
                      go_wp2_with (first
                        | (go_at_call 13; ((with_reducible refine (HU.out _).mono ?_); rintro e w' ⟨rfl, rfl⟩))
                        | (go_at_call 13; ((with_reducible refine (HV.out _).mono ?_); rintro e w' ⟨rfl, rfl⟩))
                        | (go_at_call 16; ((with_reducible refine (HIu.out _).mono ?_); rintro e w' ⟨rfl, rfl⟩))
                        | (go_at_call 16; ((with_reducible refine (HIv.out _).mono ?_); rintro e w' ⟨rfl, rfl⟩)))
                      first
                        | (refine ⟨⟨i + 1, by omega, by go_num, ok_step HA.out hok.out, HBn.out _⟩, by simp [intOf]; omega⟩)
                        | (go_roundw
                           case rel => exact ⟨i + 1, by omega, by go_num, ok_step HA.out hok.out, HBn.out _⟩
                           case measure => simp [intOf]; omega)
    · have hx := Lib.hid (ok_past HA.out (by omega))
      go_wp2
      go_ret
      exact ⟨by rw [hx.out]; rfl, HB.out⟩
end Go.Proofs.Ytmlcghbhkpbaeaa
