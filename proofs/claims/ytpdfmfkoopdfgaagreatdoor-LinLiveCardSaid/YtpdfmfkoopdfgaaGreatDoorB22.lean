/- PHeap. -/
import Derived.Sort.Lot0
set_option linter.unusedVariables false
set_option linter.unusedSimpArgs false
namespace Go.Proofs.YtpdfmfkoopdfgaaGreatDoor.HeapP
variable {α : Type} (key : α → Int) (d : α)
def el (l : List α) (i : Nat) : α := l.getD i d
def sw (l : List α) (i j : Nat) : List α := (l.set i (el d l j)).set j (el d l i)
theorem el_get {l : List α} {i : Nat} (h : i < l.length) : el d l i = l[i] := by unfold el; rw [List.getD_eq_getElem?_getD, List.getElem?_eq_getElem h]; rfl
theorem el_some {l : List α} {i : Nat} (h : i < l.length) : l[i]? = some (el d l i) := by rw [el_get d h]; exact List.getElem?_eq_getElem h
theorem sw_length (l : List α) (i j : Nat) : (sw d l i j).length = l.length := by unfold sw; simp
theorem sw_el {l : List α} {i j : Nat} (hi : i < l.length) (hj : j < l.length) (k : Nat) : el d (sw d l i j) k = if k = j then el d l i else if k = i then el d l j else el d l k := by
  unfold sw
  generalize hx : el d l i = x
  generalize hy : el d l j = y
  unfold el
  simp only [List.getD_eq_getElem?_getD, List.getElem?_set, List.length_set]
  by_cases h1 : k = j
  · subst h1; simp [hj]
  · rw [if_neg (fun e => h1 e.symm), if_neg h1]
    by_cases h2 : k = i
    · subst h2; simp [hi]
    · rw [if_neg (fun e => h2 e.symm), if_neg h2]
theorem sw_perm {l : List α} {i j : Nat} (hi : i < l.length) (hj : j < l.length) : (sw d l i j).Perm l := by
  have := Go.Sort.perm_set_set l i j hi hj
  unfold sw
  rw [el_get d hi, el_get d hj]; exact this
def Heap (l : List α) (n : Nat) : Prop := ∀ k, 0 < k → k < n → key (el d l ((k - 1) / 2)) ≤ key (el d l k)
structure UpAt (l : List α) (n j : Nat) : Prop where
  a : ∀ k, 0 < k → k < n → k ≠ j → key (el d l ((k - 1) / 2)) ≤ key (el d l k)
  b : ∀ k, 0 < k → k < n → (k - 1) / 2 = j → 0 < j → key (el d l ((j - 1) / 2)) ≤ key (el d l k)
structure DownAt (l : List α) (n i : Nat) : Prop where
  a : ∀ k, 0 < k → k < n → (k - 1) / 2 ≠ i → key (el d l ((k - 1) / 2)) ≤ key (el d l k)
  b : ∀ k, 0 < k → k < n → (k - 1) / 2 = i → 0 < i → key (el d l ((i - 1) / 2)) ≤ key (el d l k)
theorem el_append {l : List α} {x : α} {k : Nat} (h : k < l.length) : el d (l ++ [x]) k = el d l k := by
  unfold el; simp [List.getD_eq_getElem?_getD, List.getElem?_append_left h]
theorem up_start {l : List α} (x : α) (h : Heap key d l l.length) : UpAt key d (l ++ [x]) (l.length + 1) l.length := by
  refine ⟨fun k h0 h1 h2 => ?_, fun k h0 h1 h2 _ => by omega⟩
  have hk : k < l.length := by omega
  rw [el_append d hk, el_append d (by omega)]
  exact h k h0 hk
theorem up_end {l : List α} {n j : Nat} (h : UpAt key d l n j) (he : j = 0 ∨ key (el d l ((j - 1) / 2)) ≤ key (el d l j)) : Heap key d l n := by
  intro k h0 h1
  by_cases e : k = j
  · subst e; rcases he with q | q
    · omega
    · exact q
  · exact h.a k h0 h1 e
theorem up_step {l : List α} {n j : Nat} (h : UpAt key d l n j) (h0 : 0 < j) (hj : j < n) (hn : n ≤ l.length) (hl : key (el d l j) < key (el d l ((j - 1) / 2))) : UpAt key d (sw d l ((j - 1) / 2) j) n ((j - 1) / 2) := by
  have hi : (j - 1) / 2 < l.length := by omega
  have hjl : j < l.length := by omega
  have E := sw_el d hi hjl
  have hne : (j - 1) / 2 ≠ j := by omega
  refine ⟨fun k k0 k1 k2 => ?_, fun k k0 k1 k2 k3 => ?_⟩
  · rw [E, E]
    by_cases e1 : k = j
    · subst e1
      rw [if_neg hne, if_pos rfl, if_pos rfl]; omega
    · rw [if_neg e1, if_neg k2]
      by_cases e2 : (k - 1) / 2 = j
      · rw [if_pos e2]
        have := h.b k k0 k1 e2 h0; omega
      · rw [if_neg e2]
        by_cases e3 : (k - 1) / 2 = (j - 1) / 2
        · rw [if_pos e3]
          have := h.a k k0 k1 e1; rw [e3] at this; omega
        · rw [if_neg e3]; exact h.a k k0 k1 e1
  · have g1 : ((j - 1) / 2 - 1) / 2 ≠ j := by omega
    have g2 : ((j - 1) / 2 - 1) / 2 ≠ (j - 1) / 2 := by omega
    rw [E, E, if_neg g1, if_neg g2]
    have hp := h.a ((j - 1) / 2) (by omega) (by omega) hne
    by_cases e1 : k = j
    · rw [if_pos e1]; exact hp
    · have e2 : k ≠ (j - 1) / 2 := by omega
      rw [if_neg e1, if_neg e2]
      have := h.a k k0 k1 e1
      rw [k2] at this; omega
theorem down_start {l : List α} {n : Nat} (h : Heap key d l (n + 1)) (hn : n + 1 ≤ l.length) : DownAt key d (sw d l 0 n) n 0 := by
  have E := sw_el d (l := l) (i := 0) (j := n) (by omega) (by omega)
  refine ⟨fun k k0 k1 k2 => ?_, fun k k0 k1 k2 k3 => by omega⟩
  rw [E, E, if_neg (by omega), if_neg k2, if_neg (by omega), if_neg (by omega)]
  exact h k k0 (by omega)
theorem down_end {l : List α} {n i : Nat} (h : DownAt key d l n i) (he : ∀ k, 0 < k → k < n → (k - 1) / 2 = i → key (el d l i) ≤ key (el d l k)) : Heap key d l n := by
  intro k h0 h1
  by_cases e : (k - 1) / 2 = i
  · rw [e]; exact he k h0 h1 e
  · exact h.a k h0 h1 e
theorem down_step {l : List α} {n i j : Nat} (h : DownAt key d l n i) (hn : n ≤ l.length) (h0 : 0 < j) (hj : j < n) (hp : (j - 1) / 2 = i) (hmin : ∀ k, 0 < k → k < n → (k - 1) / 2 = i → key (el d l j) ≤ key (el d l k)) (hl : key (el d l j) < key (el d l i)) : DownAt key d (sw d l i j) n j := by
  have E := sw_el d (l := l) (i := i) (j := j) (by omega) (by omega)
  refine ⟨fun k k0 k1 k2 => ?_, fun k k0 k1 k2 k3 => ?_⟩
  · rw [E, E, if_neg k2]
    by_cases e1 : k = j
    · subst e1
      rw [if_pos hp, if_pos rfl]; omega
    · rw [if_neg e1]
      by_cases e3 : (k - 1) / 2 = i
      · rw [if_pos e3, if_neg (by omega)]
        exact hmin k k0 k1 e3
      · rw [if_neg e3]
        by_cases e4 : k = i
        · subst e4
          rw [if_pos rfl]
          exact h.b j h0 hj hp k0
        · rw [if_neg e4]; exact h.a k k0 k1 e3
  · rw [E, E, if_neg (by omega), if_pos hp, if_neg (by omega), if_neg (by omega)]
    have := h.a k k0 k1 (by omega)
    rw [k2] at this; exact this
theorem heap_min {l : List α} {n : Nat} (h : Heap key d l n) : ∀ k, k < n → key (el d l 0) ≤ key (el d l k) := by
  intro k
  induction k using Nat.strongRecOn with
  | ind k ih =>
    intro hk
    rcases Nat.eq_zero_or_pos k with rfl | k0
    · omega
    · have h1 := ih ((k - 1) / 2) (by omega) (by omega)
      have h2 := h k k0 hk
      omega
theorem heap_zero {l : List α} : Heap key d l 0 := fun k _ h => by omega
theorem take_el (l : List α) (n k : Nat) (h : k < n) : el d (l.take n) k = el d l k := by
  unfold el; simp [List.getD_eq_getElem?_getD, h]
theorem heap_take {l : List α} {n : Nat} (h : Heap key d l n) : Heap key d (l.take n) n := fun k h0 h1 => by
  rw [take_el d l n k h1, take_el d l n _ (by omega)]; exact h k h0 h1
theorem take_last {l : List α} {n : Nat} (h : l.length = n + 1) : l = l.take n ++ [el d l n] := by
  apply List.ext_getElem?
  intro k
  by_cases hk : k < n
  · rw [List.getElem?_append_left (by simp; omega)]; simp [hk]
  · rw [List.getElem?_append_right (by simp; omega)]
    simp only [List.length_take, h]
    by_cases e : k = n
    · subst e
      rw [el_some d (by omega)]; simp
    · rw [List.getElem?_eq_none (by omega), List.getElem?_eq_none (by simp; omega)]
end Go.Proofs.YtpdfmfkoopdfgaaGreatDoor.HeapP
