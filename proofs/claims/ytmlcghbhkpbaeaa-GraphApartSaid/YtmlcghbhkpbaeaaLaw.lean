/- Plain laws of graphs that are right: which rows they have behind an operation. No program in sight. -/
import Derived.Test.YtmlcghbhkpbaeaaRref
namespace Go.Proofs.Ytmlcghbhkpbaeaa
open Go.RowKit Aid

theorem rises_pair {l : List Arc} : Rises l ↔ l.Pairwise Lt := by
  constructor
  · intro h
    exact List.pairwise_iff_getElem.2 fun i j hi hj hij => h i j _ _ hij (List.getElem?_eq_getElem hi) (List.getElem?_eq_getElem hj)
  · intro h i j a b hij ha hb
    obtain ⟨hi, rfl⟩ := List.getElem?_eq_some_iff.1 ha
    obtain ⟨hj, rfl⟩ := List.getElem?_eq_some_iff.1 hb
    exact List.pairwise_iff_getElem.1 h i j hi hj hij
theorem Lt.tri (a b : Arc) : Lt a b ∨ (a.u = b.u ∧ a.v = b.v) ∨ Lt b a := by unfold Lt; omega
theorem hasB_iff {l : List Arc} {u v : Int} : hasB l u v = true ↔ ∃ a ∈ l, a.u = u ∧ a.v = v := by
  unfold hasB rowOf
  rw [List.find?_isSome]
  simp
theorem hasB_no {l : List Arc} {u v : Int} : hasB l u v = false ↔ ∀ a ∈ l, ¬ (a.u = u ∧ a.v = v) := by
  constructor
  · intro h a ha hc
    have := hasB_iff.2 ⟨a, ha, hc⟩
    rw [h] at this; cases this
  · intro h
    cases hb : hasB l u v
    · rfl
    · obtain ⟨a, ha, hc⟩ := hasB_iff.1 hb
      exact absurd hc (h a ha)
theorem rises_mem {l : List Arc} (h : Rises l) {a b : Arc} (ha : a ∈ l) (hb : b ∈ l) (h1 : a.u = b.u) (h2 : a.v = b.v) : a = b := by
  obtain ⟨i, hi, rfl⟩ := List.getElem_of_mem ha
  obtain ⟨j, hj, rfl⟩ := List.getElem_of_mem hb
  rcases Nat.lt_trichotomy i j with q | q | q
  · have := h i j _ _ q (List.getElem?_eq_getElem hi) (List.getElem?_eq_getElem hj)
    unfold Lt at this; omega
  · subst q; rfl
  · have := h j i _ _ q (List.getElem?_eq_getElem hj) (List.getElem?_eq_getElem hi)
    unfold Lt at this; omega
theorem hasW_mem {l : List Arc} (h : Rises l) {a : Arc} (ha : a ∈ l) : hasW l a.u a.v = a.w := by
  have hb : hasB l a.u a.v = true := hasB_iff.2 ⟨a, ha, rfl, rfl⟩
  obtain ⟨b, hb1, h1, h2, h3⟩ := place_hit h hb
  rw [h3, rises_mem h (List.mem_of_getElem? hb1) ha h1 h2]
theorem rises_eq : ∀ {l k : List Arc}, l.Pairwise Lt → k.Pairwise Lt → (∀ a, a ∈ l ↔ a ∈ k) → l = k
  | [], [], _, _, _ => rfl
  | [], b :: k, _, _, h => absurd ((h b).2 (List.mem_cons_self ..)) (by simp)
  | a :: l, [], _, _, h => absurd ((h a).1 (List.mem_cons_self ..)) (by simp)
  | a :: l, b :: k, h1, h2, h => by
    rw [List.pairwise_cons] at h1 h2
    have e : a = b := by
      rcases List.mem_cons.1 ((h a).1 (List.mem_cons_self ..)) with q | q
      · exact q
      · rcases List.mem_cons.1 ((h b).2 (List.mem_cons_self ..)) with q2 | q2
        · exact q2.symm
        · exact absurd ((h1.1 b q2).trans (h2.1 a q)) (Lt.irrefl a)
    subst e
    have : l = k := rises_eq h1.2 h2.2 fun x => by
      constructor
      · intro hx
        rcases List.mem_cons.1 ((h x).1 (List.mem_cons_of_mem _ hx)) with q | q
        · subst q; exact absurd (h1.1 x hx) (Lt.irrefl x)
        · exact q
      · intro hx
        rcases List.mem_cons.1 ((h x).2 (List.mem_cons_of_mem _ hx)) with q | q
        · subst q; exact absurd (h2.1 x hx) (Lt.irrefl x)
        · exact q
    rw [this]
theorem same_rows {l k : List Arc} (h1 : Rises l) (h2 : Rises k) (h : ∀ a, a ∈ l ↔ a ∈ k) : l = k := rises_eq (rises_pair.1 h1) (rises_pair.1 h2) h
/-- A graph that is right. -/
structure R (l : List Arc) : Prop where
  rises : Rises l
  row : ∀ a ∈ l, RowOk l a
theorem adj_rises {l : List Arc} (h : ∀ (j : Nat) (p a : Arc), l[j]? = some p → l[j + 1]? = some a → Lt p a) : Rises l := by
  intro i j a b hij
  induction j generalizing b with
  | zero => omega
  | succ j ih =>
    intro ha hb
    rcases Nat.lt_or_ge i j with q | q
    · obtain ⟨c, hc⟩ : ∃ c, l[j]? = some c := ⟨l[j]'(by have := (List.getElem?_eq_some_iff.1 hb).1; omega), List.getElem?_eq_getElem _⟩
      exact (ih c q ha hc).trans (h j c b hc hb)
    · obtain rfl : i = j := by omega
      exact h i a b ha hb
theorem R.of {l : List Arc} (h : RightP l) : R l := ⟨adj_rises fun j p a hp ha => (h (j + 1) a ha).1 p (by omega) hp, fun a ha => by
  obtain ⟨j, hj, rfl⟩ := List.getElem_of_mem ha
  exact (h j _ (List.getElem?_eq_getElem hj)).2⟩
theorem R.right {l : List Arc} (h : R l) : rightB l = true := rightB_t fun j a ha => ⟨fun p hj hp => h.rises (j - 1) j p a (by omega) hp ha, h.row a (List.mem_of_getElem? ha)⟩
theorem R.ofB {l : List Arc} (h : rightB l = true) : R l := R.of (right_of h)

/-! ### with -/
theorem place_split {l : List Arc} (hs : Rises l) (t : Arc) (hn : hasB l t.u t.v = false) : (∀ a ∈ l.take (place l t), Lt a t) ∧ (∀ a ∈ l.drop (place l t), Lt t a) := by
  have hp := rises_pair.1 hs
  have hno := hasB_no.1 hn
  clear hs hn
  unfold place
  induction l with
  | nil => simp
  | cons x l ih =>
    rw [List.pairwise_cons] at hp
    have ih := ih hp.2 (fun a ha => hno a (List.mem_cons_of_mem _ ha))
    by_cases h : Lt x t
    · rw [List.takeWhile_cons_of_pos (by simpa using h), List.length_cons, List.take_succ_cons, List.drop_succ_cons]
      refine ⟨fun a ha => ?_, ih.2⟩
      rcases List.mem_cons.1 ha with rfl | q
      · exact h
      · exact ih.1 a q
    · rw [List.takeWhile_cons_of_neg (by simpa using h)]
      have hx : Lt t x := by
        rcases Lt.tri x t with q | q | q
        · exact absurd q h
        · exact absurd q (hno x (List.mem_cons_self ..))
        · exact q
      refine ⟨by simp, fun a ha => ?_⟩
      rcases List.mem_cons.1 (by simpa using ha) with rfl | q
      · exact hx
      · exact hx.trans (hp.1 a q)
theorem lt_key {a x y : Arc} (h1 : x.u = y.u) (h2 : x.v = y.v) : (Lt a x ↔ Lt a y) ∧ (Lt x a ↔ Lt y a) := by unfold Lt; rw [h1, h2]; exact ⟨Iff.rfl, Iff.rfl⟩
theorem rises_withL {l : List Arc} (hs : Rises l) (x : Arc) : Rises (withL l x) := by
  cases hb : hasB l x.u x.v
  · rw [withL_miss hb]
    obtain ⟨h1, h2⟩ := place_split hs ⟨x.u, x.v, 0⟩ hb
    have hp := rises_pair.1 hs
    rw [← List.take_append_drop (place l ⟨x.u, x.v, 0⟩) l, List.pairwise_append] at hp
    obtain ⟨q1, q2, q3⟩ := hp
    refine rises_pair.2 ?_
    unfold putIn
    rw [List.pairwise_append]
    refine ⟨q1, List.pairwise_cons.2 ⟨fun a ha => (lt_key (x := ⟨x.u, x.v, 0⟩) (y := x) rfl rfl).2.1 (h2 a ha), q2⟩, fun a ha b hb => ?_⟩
    rcases List.mem_cons.1 hb with rfl | q
    · exact (lt_key (x := ⟨b.u, b.v, 0⟩) (y := b) rfl rfl).1.1 (h1 a ha)
    · exact q3 a ha b q
  · rw [withL_hit hb]; exact hs
theorem mem_withL {l : List Arc} {x a : Arc} : a ∈ withL l x ↔ a ∈ l ∨ (hasB l x.u x.v = false ∧ a = x) := by
  cases hb : hasB l x.u x.v
  · rw [withL_miss hb]
    unfold putIn
    conv => rhs; rw [← List.take_append_drop (place l ⟨x.u, x.v, 0⟩) l]
    simp only [List.mem_append, List.mem_cons, true_and]
    constructor
    · rintro (h | rfl | h)
      · exact .inl (.inl h)
      · exact .inr rfl
      · exact .inl (.inr h)
    · rintro ((h | h) | rfl)
      · exact .inl h
      · exact .inr (.inr h)
      · exact .inr (.inl rfl)
  · rw [withL_hit hb]; simp
theorem len_withL {l : List Arc} {x : Arc} : (withL l x).length = l.length + (if hasB l x.u x.v then 0 else 1) := by
  cases hb : hasB l x.u x.v
  · rw [withL_miss hb, putIn_length _ (place_le _ _)]; rfl
  · rw [withL_hit hb]; rfl
theorem rises_kept {l : List Arc} (hs : Rises l) (p : Arc → Bool) : Rises (kept l p) := rises_pair.2 ((rises_pair.1 hs).filter _)
theorem mem_kept {l : List Arc} {p : Arc → Bool} {a : Arc} : a ∈ kept l p ↔ a ∈ l ∧ p a = false := by unfold kept; rw [List.mem_filter]; simp

/-! ### Do -/
/-- An operation that may be: its kind and its keys. -/
def Fit (o : Op) : Prop := 11 ≤ o.k ∧ o.k ≤ 17 ∧ keysB o = true
theorem keys_t {o : Op} (h : keysB o = true) : isV o.u = true ∧ (edgeKind o.k = true → isV o.v = true) := by
  unfold keysB at h
  cases he : edgeKind o.k
  · rw [he] at h; exact ⟨h, fun q => by cases q⟩
  · rw [he] at h
    simp only [if_true, Bool.and_eq_true] at h
    exact ⟨h.1, fun _ => h.2⟩
theorem Fit.u {o : Op} (h : Fit o) : 0 ≤ o.u := (isV_t (keys_t h.2.2).1).1
theorem Fit.v {o : Op} (h : Fit o) (hk : o.k = 14 ∨ o.k = 15 ∨ o.k = 16) : 0 ≤ o.v := (isV_t ((keys_t h.2.2).2 (decide_eq_true hk))).1
theorem doG_bad {l : List Arc} {o : Op} (h : ¬ Fit o) : doG l o = l := by
  unfold doG
  rw [if_pos]
  cases hk : keysB o
  · simp
  · simp
    unfold Fit at h
    rw [hk] at h; simp at h; omega
theorem fit_no {o : Op} (h : Fit o) : ¬ ((decide (o.k < 11 ∨ 17 < o.k) || !keysB o) = true) := by
  obtain ⟨h1, h2, h3⟩ := h
  rw [h3]; simp; omega
theorem doG_11 {l : List Arc} {o : Op} (h : Fit o) (hk : o.k = 11) : doG l o = withL l ⟨o.u, -1, 0⟩ := by
  unfold doG; rw [if_neg (fit_no h), if_pos hk]
theorem doG_12 {l : List Arc} {o : Op} (h : Fit o) (hk : o.k = 12) : doG l o = kept l (ends o) := by
  unfold doG; rw [if_neg (fit_no h), if_neg (by omega), if_pos hk]
theorem doG_14 {l : List Arc} {o : Op} (h : Fit o) (hk : o.k = 14) (hb : both l o = true) : doG l o = withL l ⟨o.u, o.v, o.w⟩ := by
  unfold doG; rw [if_neg (fit_no h), if_neg (by omega), if_neg (by omega), if_pos ⟨hk, hb⟩]
theorem doG_15 {l : List Arc} {o : Op} (h : Fit o) (hk : o.k = 15) (hb : both l o = true) : doG l o = kept l (isE o) := by
  unfold doG; rw [if_neg (fit_no h), if_neg (by omega), if_neg (by omega), if_neg (by omega), if_pos ⟨hk, hb⟩]
theorem doG_else {l : List Arc} {o : Op} (h1 : o.k ≠ 11) (h2 : o.k ≠ 12) (h3 : o.k = 14 → both l o = false) (h4 : o.k = 15 → both l o = false) : doG l o = l := by
  unfold doG
  split
  · rfl
  · have a3 : ¬ (o.k = 14 ∧ both l o = true) := fun q => by rw [h3 q.1] at q; cases q.2
    have a4 : ¬ (o.k = 15 ∧ both l o = true) := fun q => by rw [h4 q.1] at q; cases q.2
    simp only [if_neg a3, if_neg a4]
/-- Rows that an operation strikes out. -/
def Rem (l : List Arc) (o : Op) (a : Arc) : Prop := Fit o ∧ ((o.k = 12 ∧ (a.u = o.u ∨ a.v = o.u)) ∨ (o.k = 15 ∧ both l o = true ∧ a.u = o.u ∧ a.v = o.v))
/-- Rows that an operation adds. -/
def Add (l : List Arc) (o : Op) (a : Arc) : Prop := Fit o ∧ ((o.k = 11 ∧ hasB l o.u (-1) = false ∧ a = ⟨o.u, -1, 0⟩) ∨ (o.k = 14 ∧ both l o = true ∧ hasB l o.u o.v = false ∧ a = ⟨o.u, o.v, o.w⟩))
theorem mem_do {l : List Arc} {o : Op} {a : Arc} : a ∈ doG l o ↔ (a ∈ l ∧ ¬ Rem l o a) ∨ Add l o a := by
  by_cases hf : Fit o
  · by_cases h1 : o.k = 11
    · rw [doG_11 hf h1, mem_withL]
      unfold Rem Add
      have a1 : o.k ≠ 12 := by omega
      have a2 : o.k ≠ 15 := by omega
      have a3 : o.k ≠ 14 := by omega
      simp [hf, h1]
    · by_cases h2 : o.k = 12
      · rw [doG_12 hf h2, mem_kept]
        unfold Rem Add ends
        have a2 : o.k ≠ 15 := by omega
        have a3 : o.k ≠ 14 := by omega
        simp [hf, h2]
      · by_cases h3 : o.k = 14
        · cases hb : both l o
          · rw [doG_else h1 h2 (fun _ => hb) (fun q => by omega)]
            unfold Rem Add
            simp [h3, hb]
          · rw [doG_14 hf h3 hb, mem_withL]
            unfold Rem Add
            simp [hf, h3, hb]
        · by_cases h4 : o.k = 15
          · cases hb : both l o
            · rw [doG_else h1 h2 (fun q => by omega) (fun _ => hb)]
              unfold Rem Add
              simp [h1, h2, h3, hb]
            · rw [doG_15 hf h4 hb, mem_kept]
              unfold Rem Add isE
              simp [hf, h4, hb]
          · rw [doG_else h1 h2 (fun q => absurd q h3) (fun q => absurd q h4)]
            unfold Rem Add
            simp [h1, h2, h3, h4]
  · rw [doG_bad hf]
    unfold Rem Add
    simp [hf]
theorem rises_do {l : List Arc} (hs : Rises l) (o : Op) : Rises (doG l o) := by
  by_cases hf : Fit o
  · by_cases h1 : o.k = 11
    · rw [doG_11 hf h1]; exact rises_withL hs _
    · by_cases h2 : o.k = 12
      · rw [doG_12 hf h2]; exact rises_kept hs _
      · by_cases h3 : o.k = 14 ∧ both l o = true
        · rw [doG_14 hf h3.1 h3.2]; exact rises_withL hs _
        · by_cases h4 : o.k = 15 ∧ both l o = true
          · rw [doG_15 hf h4.1 h4.2]; exact rises_kept hs _
          · rw [doG_else h1 h2 (fun q => by cases hb : both l o; rfl; exact absurd ⟨q, hb⟩ h3) (fun q => by cases hb : both l o; rfl; exact absurd ⟨q, hb⟩ h4)]; exact hs
  · rw [doG_bad hf]; exact hs
theorem len_do (l : List Arc) (o : Op) : (doG l o).length ≤ l.length + 1 := by
  by_cases hf : Fit o
  · by_cases h1 : o.k = 11
    · rw [doG_11 hf h1, len_withL]; split <;> omega
    · by_cases h2 : o.k = 12
      · rw [doG_12 hf h2]; have := kept_le l (ends o); omega
      · by_cases h3 : o.k = 14 ∧ both l o = true
        · rw [doG_14 hf h3.1 h3.2, len_withL]; split <;> omega
        · by_cases h4 : o.k = 15 ∧ both l o = true
          · rw [doG_15 hf h4.1 h4.2]; have := kept_le l (isE o); omega
          · rw [doG_else h1 h2 (fun q => by cases hb : both l o; rfl; exact absurd ⟨q, hb⟩ h3) (fun q => by cases hb : both l o; rfl; exact absurd ⟨q, hb⟩ h4)]; omega
  · rw [doG_bad hf]; omega
theorem inB_iff {l : List Arc} {u : Int} : inB l u = true ↔ ∃ a ∈ l, a.u = u ∧ a.v = -1 := hasB_iff
theorem both_iff {l : List Arc} {o : Op} : both l o = true ↔ inB l o.u = true ∧ inB l o.v = true := by unfold both; rw [Bool.and_eq_true]
/-- A vertex' row stays, but where the vertex goes. -/
theorem inB_do {l : List Arc} {o : Op} {y : Int} (h : inB l y = true) (hy : ¬ (o.k = 12 ∧ o.u = y)) : inB (doG l o) y = true := by
  obtain ⟨a, ha, h1, h2⟩ := inB_iff.1 h
  refine inB_iff.2 ⟨a, mem_do.2 (.inl ⟨ha, ?_⟩), h1, h2⟩
  rintro ⟨hf, (⟨hk, q | q⟩ | ⟨hk, _, _, q⟩)⟩
  · exact hy ⟨hk, by omega⟩
  · have := hf.u; omega
  · have := hf.v (.inr (.inl hk)); omega
theorem R.do {l : List Arc} (h : R l) (o : Op) : R (doG l o) := by
  by_cases hf : Fit o
  · refine ⟨rises_do h.rises o, fun a ha => ?_⟩
    rcases mem_do.1 ha with ⟨ha, hr⟩ | ⟨_, (⟨hk, hn, rfl⟩ | ⟨hk, hb, hn, rfl⟩)⟩
    · obtain ⟨q1, q2, q3, q4, q5⟩ := h.row a ha
      exact ⟨q1, q2, q3, inB_do q4 fun q => hr ⟨hf, .inl ⟨q.1, by omega⟩⟩, fun hv => inB_do (q5 hv) fun q => hr ⟨hf, .inl ⟨q.1, by omega⟩⟩⟩
    · exact ⟨(keys_t hf.2.2).1, fun _ => rfl, fun q => absurd rfl q, inB_iff.2 ⟨_, ha, rfl, rfl⟩, fun q => absurd rfl q⟩
    · have hv := hf.v (.inl hk)
      have hb' := both_iff.1 hb
      exact ⟨(keys_t hf.2.2).1, fun q => absurd q (by simp only; omega), fun _ => (keys_t hf.2.2).2 (decide_eq_true (.inl hk)), inB_do hb'.1 (fun q => by omega), fun _ => inB_do hb'.2 (fun q => by omega)⟩
  · rw [doG_bad hf]; exact h
end Go.Proofs.Ytmlcghbhkpbaeaa
