/- hist.Right. -/
import Derived.Test.YthepgdfhdkhhbaaPred
import Derived.Test.YthepgdfhdkhhbaaRefRight
namespace Go.Proofs.Ythepgdfhdkhhbaa
open Go.RowKit Aid

theorem Cls.take {w : World} {A : Option Addr} {l : List Cl} (h : Cls w A l) (i : Nat) : Cls w A (l.take i) := by
  refine ⟨fun a ha => h.1 a (List.mem_of_mem_take ha), fun hp => ?_⟩
  obtain ⟨b, off, hA, hc⟩ := h.2 (by rw [List.length_take] at hp; omega)
  refine ⟨b, off, hA, fun j a hj => hc j a ?_⟩
  rw [List.getElem?_take] at hj
  split at hj
  · exact hj
  · cases hj
theorem any_take {l : List Cl} {i : Nat} {b : Cl} (h : ((l.take i).any fun a => !fitsB a b) = false) : ∀ k a, k < i → l[k]? = some a → fitsB a b = true := fun k a hk ha => by
  rw [List.any_eq_false] at h
  have := h a (List.mem_of_getElem? (i := k) (by rw [List.getElem?_take, if_pos hk]; exact ha))
  simpa using this
theorem take_any {l : List Cl} {i : Nat} {b : Cl} (hb : l[i]? = some b) (h : ((l.take i).any fun a => !fitsB a b) = true) : rightB l = false := by
  obtain ⟨a, ha, hf⟩ := List.any_eq_true.1 h
  obtain ⟨k, hk, rfl⟩ := List.getElem_of_mem ha
  rw [List.length_take] at hk
  exact not_fits hb (k := k) (by omega) (a := (l.take i)[k]'(by rw [List.length_take]; omega)) (by rw [List.getElem_take, List.getElem?_eq_getElem]) (by simpa using hf)
set_option maxHeartbeats 8000000 in
set_option maxRecDepth 100000 in
theorem right_any (A : Option Addr) (c n : Nat) (l : List Cl) (w : World) (hn : n = l.length) (hl : Cls w A l) (h40 : l.length ≤ 1000) (hc : n ≤ c) (hc2 : c ≤ 9223372036854775807) :
    Calls Try.prog 10 #[.slice A n c] w fun e w' => e = .returned (.bool (rightB l)) ∧ Below w.heap.size w w' := by
  subst hn
  have HL := Lib.hid hl
  clear hl
  go_enter Try.func10, Try.ntmps10
  go_wp2
  go_loopw [7] (fun v wr => ∃ i : Nat, i ≤ l.length ∧ v = .int .i64 i ∧ (∀ j, j < i → OkAt l j) ∧ Below w.heap.size w wr) (fun v _ => l.length - (intOf v).toNat)
  case atStart => exact ⟨0, Nat.zero_le _, rfl, fun j hj => by omega, Below.refl _ _⟩
  case round =>
    obtain ⟨i, hi, rfl, hall, hb⟩ := hrel
    have HA := Lib.hid hall
    have HB := Lib.hid hb
    clear hall hb
    by_cases hlt : i < l.length
    · obtain ⟨b, hbl⟩ : ∃ b, l[i]? = some b := ⟨_, List.getElem?_eq_getElem hlt⟩
      obtain ⟨p, off, hA, hat⟩ := (HL.out.below HB.out (Nat.le_refl _)).get hbl
      subst hA
      obtain ⟨c0, c1, c2, c3, c4, c5, c6, c7, c8, c9, c10, c11, c12⟩ := hat
      have HBL := Lib.hid hbl
      clear hbl
      have QB := Lib.hid ((Below.refl wr.heap.size wr).alloc (Nat.le_refl _) (bx b))
      have HB1 := Lib.hid (HB.out.trans (QB.out.mono HB.out.size))
      have AB := Lib.hid (at_box wr b)
      have i0 : (0 : Int) ≤ (i : Int) := by omega
      have i1 : (i : Int) < (l.length : Int) := by omega
      have i2 : (i : Int) ≤ (c : Int) := by omega
      have n3 : IntKind.i64.wrap ((i : Int) + 1) = (i : Int) + 1 := by rw [IntKind.wrap_i64] <;> omega
      have DM := Lib.hid (may_any b (wr.alloc (bx b)))
      obtain ⟨a0, a1, a2, a3, a4, a5, a6, a7, a8, a9, a10, a11, a12⟩ := AB.out
      unfold bx at a0 a1 a2 a3 a4 a5 a6 a7 a8 a9 a10 a11 a12
      have HC : Hid (∀ W, Below (wr.alloc (bx b)).heap.size (wr.alloc (bx b)) W → Calls Try.prog 27 #[.slice (some ⟨p, off, none⟩) i c, .func (.func 28) #[] #[.pointer (some ⟨wr.heap.size, 0, none⟩)]] W fun e w' => e = .returned (.bool ((l.take i).any fun a => !fitsB a b)) ∧ Below W.heap.size W w') :=
        Lib.hid fun W hW => contains_any 28 _ call28 (fun a => !fitsB a b) _ c i (l.take i) W (by rw [List.length_take]; omega) (((HL.out.below HB1.out (Nat.le_refl _)).below hW (Nat.le_refl _)).take i) (by rw [List.length_take]; omega) (says_fits (AB.out.below hW (Nat.le_refl _)) _)
      unfold bx at HC
      unfold Cl.val bx at DM
      unfold bx at QB HB1
      cases hm : mayB b
      · have hx := Lib.hid (not_may HBL.out hm)
        rw [hm] at DM
        clear hm
        go_wp2_with (go_at_call 26; ((with_reducible refine DM.out.mono ?_); rintro e w1 ⟨rfl, hb⟩; have HE := Lib.hid (HB1.out.trans (hb.mono HB1.out.size)); clear hb))
        go_ret
        exact ⟨by rw [hx.out]; rfl, HE.out⟩
      · have HM := Lib.hid hm
        rw [hm] at DM
        clear hm
        cases hq : (l.take i).any fun a => !fitsB a b
        · have hst := Lib.hid (ok_step HA.out HBL.out HM.out (any_take hq))
          rw [hq] at HC
          clear hq
          go_wp2_with (first
            | (go_at_call 26; ((with_reducible refine DM.out.mono ?_); rintro e w1 ⟨rfl, hb⟩; have HE := Lib.hid (HB1.out.trans (hb.mono HB1.out.size)); have D2 := Lib.hid (HC.out _ hb); clear hb))
            | (go_at_call 27; ((with_reducible refine D2.out.mono ?_); rintro e w2 ⟨rfl, hb⟩; have HG := Lib.hid (HE.out.trans (hb.mono HE.out.size)); clear hb)))
          go_roundw
          case rel => exact ⟨i + 1, by omega, by go_num, hst.out, HG.out⟩
          case measure => simp [intOf]; omega
        · have hx := Lib.hid (take_any HBL.out hq)
          rw [hq] at HC
          clear hq
          go_wp2_with (first
            | (go_at_call 26; ((with_reducible refine DM.out.mono ?_); rintro e w1 ⟨rfl, hb⟩; have HE := Lib.hid (HB1.out.trans (hb.mono HB1.out.size)); have D2 := Lib.hid (HC.out _ hb); clear hb))
            | (go_at_call 27; ((with_reducible refine D2.out.mono ?_); rintro e w2 ⟨rfl, hb⟩; have HG := Lib.hid (HE.out.trans (hb.mono HE.out.size)); clear hb)))
          go_ret
          exact ⟨by rw [hx.out]; rfl, HG.out⟩
    · have hx := Lib.hid (ok_past HA.out (by omega))
      go_wp2
      go_ret
      exact ⟨by rw [hx.out]; rfl, HB.out⟩
end Go.Proofs.Ythepgdfhdkhhbaa
