/- The document's example: its calls. -/
import Derived.Test.YthepgdfhdkhhbaaListed
namespace Go.Proofs.Ythepgdfhdkhhbaa
open Go.RowKit Aid

def cA : Cl := ⟨0, 11, 5, 0, 0, 0, 0, 3, 0, true, 0, 0, [], none, 0⟩
def cB : Cl := ⟨1, 16, 1, 5, 0, 0, 1, 2, 0, false, 0, 0, [], none, 0⟩
def cC (p : Nat) : Cl := ⟨1, 17, 1, 0, 0, 0, 4, 5, 0, true, 0, 0, [5], some ⟨p, 0, none⟩, 1⟩
def hL (p : Nat) : List Cl := [cA, cB, cC p]
theorem sorted_of {zs ys : List Int} (h : ys.Pairwise (· ≤ ·)) (hp : zs.Perm ys) : sorted zs = ys := by
  have h1 : (sorted zs).Perm ys := (List.mergeSort_perm zs _).trans hp
  exact h1.eq_of_pairwise (fun a b _ _ h1 h2 => Int.le_antisymm h1 h2) (sorted_pair zs) h
theorem keys_ex (p : Nat) : keysOf (hL p) = [1, 5] := by
  have hn : namesOf (hL p) = [5, 1, 5, 1] := by
    have e1 : edgeB 11 = false := by decide
    have e2 : edgeB 16 = true := by decide
    have e3 : edgeB 17 = false := by decide
    simp [namesOf, hL, cA, cB, cC, e1, e2, e3]
  unfold keysOf uniq
  rw [hn, sorted_of (ys := [1, 1, 5, 5]) (by decide) (by decide)]
  decide +kernel
theorem points_ex (p : Nat) : pointsOf (hL p) = pointsK (hL p) [1, 5] := by unfold pointsOf; rw [keys_ex]
theorem len_ex (p : Nat) : (pointsK (hL p) [1, 5]).length = 5 := by kernel_rfl
theorem g44 (p : Nat) : (flat (pointsK (hL p) [1, 5]))[44]? = some (.int .i64 1) := by kernel_rfl
theorem g47 (p : Nat) : (flat (pointsK (hL p) [1, 5]))[47]? = some (.bool false) := by kernel_rfl
theorem g61 (p : Nat) : (flat (pointsK (hL p) [1, 5]))[61]? = some (.bool true) := by kernel_rfl
theorem g65 (p : Nat) : (flat (pointsK (hL p) [1, 5]))[65]? = some (.bool true) := by kernel_rfl
theorem g13 (p : Nat) : (flat (pointsK (hL p) [1, 5]))[13]? = some (.bool true) := by kernel_rfl
theorem right_ex (p : Nat) : rightB (hL p) = true := rightB_t fun j b hb => by
  have hj : j = 0 ∨ j = 1 ∨ j = 2 := by have := (List.getElem?_eq_some_iff.1 hb).1; simp [hL] at this; omega
  rcases hj with rfl | rfl | rfl
  · simp [hL] at hb; subst hb
    exact ⟨by decide, fun k a hk => by omega⟩
  · simp [hL] at hb; subst hb
    refine ⟨by decide, fun k a hk ha => ?_⟩
    obtain rfl : k = 0 := by omega
    simp [hL] at ha; subst ha; decide
  · simp [hL] at hb; subst hb
    refine ⟨by unfold cC; exact decide_eq_true (by simp only; omega), fun k a hk ha => ?_⟩
    have : k = 0 ∨ k = 1 := by omega
    rcases this with rfl | rfl
    · simp [hL] at ha; subst ha; unfold cA cC; exact decide_eq_true (by simp only; omega)
    · simp [hL] at ha; subst ha; unfold cB cC; exact decide_eq_true (by simp only; omega)
theorem wrong_ex : rightB [cB, cA] = false := not_fits (j := 1) (k := 0) (b := cA) (a := cB) rfl (by decide) rfl (by decide)
theorem listed_ex (p : Nat) : (!(hL p).any (notListed (keysOf (hL p)))) = true := by rw [keys_ex]; kernel_rfl
theorem keysX (W : World) (A : Option Addr) (c p : Nat) (hl : Cls W A (hL p)) : Calls Try.prog 17 #[.slice A 3 c] W fun e w' => ∃ b o d, e = .returned (.slice (some ⟨b, o, none⟩) 2 d) ∧ w'.cell? ⟨b, o, none⟩ = some (.int .i64 1) ∧ w'.cell? ⟨b, o + 1, none⟩ = some (.int .i64 5) ∧ Below W.heap.size W w' := by
  have h := keys_any A c 3 (hL p) W rfl hl (by simp [hL])
  rw [keys_ex] at h
  refine h.mono ?_
  rintro e w' ⟨B, d, rfl, ho, hb⟩
  obtain ⟨b, o, rfl, hc⟩ := own_sl ho (by decide)
  exact ⟨b, o, d, rfl, hc 0 _ rfl, hc 1 _ rfl, hb⟩
theorem pointsX (W : World) (A : Option Addr) (c p : Nat) (hl : Cls W A (hL p)) : Calls Try.prog 22 #[.slice A 3 c] W fun e w' => ∃ b o d, e = .returned (.slice (some ⟨b, o, none⟩) 5 d) ∧ w'.cell? ⟨b, o + 44, none⟩ = some (.int .i64 1) ∧ w'.cell? ⟨b, o + 47, none⟩ = some (.bool false) ∧ w'.cell? ⟨b, o + 61, none⟩ = some (.bool true) ∧ w'.cell? ⟨b, o + 65, none⟩ = some (.bool true) ∧ w'.cell? ⟨b, o + 13, none⟩ = some (.bool true) ∧ Below W.heap.size W w' := by
  have h := points_any A c 3 (hL p) W rfl hl (by simp [hL]) (by intro a ha; simp [hL] at ha; rcases ha with rfl | rfl | rfl <;> simp [cA, cB, cC])
  rw [points_ex, len_ex] at h
  refine h.mono ?_
  rintro e w' ⟨B, d, rfl, ho, hb⟩
  obtain ⟨b, o, rfl, hc⟩ := ho (by rw [flat_length, len_ex]; decide)
  exact ⟨b, o, d, rfl, hc 44 _ (g44 p), hc 47 _ (g47 p), hc 61 _ (g61 p), hc 65 _ (g65 p), hc 13 _ (g13 p), hb⟩
theorem rightX (W : World) (A : Option Addr) (p : Nat) (hl : Cls W A (hL p)) : Calls Try.prog 10 #[.slice A 3 3] W fun e w' => e = .returned (.bool true) ∧ Below W.heap.size W w' := by
  have h := right_any A 3 3 (hL p) W rfl hl (by simp [hL]) (by decide) (by decide)
  rw [right_ex] at h; exact h
theorem wrongX (W : World) (A : Option Addr) (hl : Cls W A [cB, cA]) : Calls Try.prog 10 #[.slice A 2 2] W fun e w' => e = .returned (.bool false) ∧ Below W.heap.size W w' := by
  have h := right_any A 2 2 [cB, cA] W rfl hl (by simp) (by decide) (by decide)
  rw [wrong_ex] at h; exact h
theorem listedX (W : World) (A : Option Addr) (c p : Nat) (hl : Cls W A (hL p)) : Calls Try.prog 19 #[.slice A 3 c] W fun e w' => e = .returned (.bool true) ∧ Below W.heap.size W w' := by
  have h := listedH_any A c 3 (hL p) W rfl hl (by simp [hL]) (by intro a ha; simp [hL] at ha; rcases ha with rfl | rfl | rfl <;> simp [cA, cB, cC])
  rw [listed_ex] at h; exact h
end Go.Proofs.Ythepgdfhdkhhbaa
