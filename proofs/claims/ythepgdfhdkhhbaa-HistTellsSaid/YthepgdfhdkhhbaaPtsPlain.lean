/- The plain law of HistPoints; keys, sorted and compacted. -/
import Derived.Test.YthepgdfhdkhhbaaMem
import Derived.Test.YthepgdfhdkhhbaaListed
namespace Go.Proofs.Ythepgdfhdkhhbaa
open Go.RowKit Aid

theorem compact_lt {zs : List Int} (h : zs.Pairwise (· ≤ ·)) : (Lib.compact zs).Pairwise (· < ·) := by
  unfold Lib.compact Lib.compactUpTo
  rw [List.pairwise_map]
  have hr : (List.range zs.length).Pairwise (· < ·) := List.pairwise_lt_range
  refine List.Pairwise.imp_of_mem ?_ (hr.filter _)
  intro a b ha hb hab
  have h1 := List.mem_range.1 (List.mem_filter.1 ha).1
  have h2 := List.mem_range.1 (List.mem_filter.1 hb).1
  have hk : b = 0 ∨ zs.toArray[b]! ≠ zs.toArray[b - 1]! := of_decide_eq_true (List.mem_filter.1 hb).2
  have hb0 : b - 1 < zs.length := by omega
  rw [getElem!_pos zs.toArray b (by simpa using h2), getElem!_pos zs.toArray (b - 1) (by simpa using hb0)] at hk
  rw [getElem!_pos _ _ (by simpa using h1), getElem!_pos _ _ (by simpa using h2)]
  have g : ∀ i j (hi : i < zs.length) (hj : j < zs.length), i ≤ j → zs[i] ≤ zs[j] := fun i j hi hj hij => by
    rcases Nat.lt_or_ge i j with q | q
    · exact List.pairwise_iff_getElem.1 h i j hi hj q
    · obtain rfl : i = j := by omega
      exact Int.le_refl _
  have g1 := g a (b - 1) h1 hb0 (by omega)
  have g2 := g (b - 1) b hb0 h2 (by omega)
  simp only [List.getElem_toArray] at hk ⊢
  have hne : zs[b] ≠ zs[b - 1] := hk.resolve_left (by omega)
  omega
theorem upto_mem {zs : List Int} : ∀ m, m ≤ zs.length → ∀ j, j < m → zs.toArray[j]! ∈ Lib.compactUpTo zs.toArray m
  | 0, _, _, hj => by omega
  | m + 1, hm, j, hj => by
    rw [Lib.compactUpTo_succ]
    rcases Nat.lt_or_ge j m with q | q
    · exact List.mem_append_left _ (upto_mem m (by omega) j q)
    · obtain rfl : j = m := by omega
      cases hk : Lib.keeps zs.toArray j
      · have hk' : ¬ (j = 0 ∨ zs.toArray[j]! ≠ zs.toArray[j - 1]!) := of_decide_eq_false hk
        have h0 : j ≠ 0 := fun e => hk' (.inl e)
        have he : zs.toArray[j]! = zs.toArray[j - 1]! := Classical.not_not.1 fun e => hk' (.inr e)
        rw [he]
        exact List.mem_append_left _ (upto_mem j (by omega) (j - 1) (by omega))
      · rw [if_pos rfl]
        exact List.mem_append_right _ (List.mem_singleton.2 rfl)
theorem mem_compact {zs : List Int} {x : Int} : x ∈ Lib.compact zs ↔ x ∈ zs := by
  constructor
  · intro h
    unfold Lib.compact Lib.compactUpTo at h
    obtain ⟨j, hj, rfl⟩ := List.mem_map.1 h
    have h1 := List.mem_range.1 (List.mem_filter.1 hj).1
    rw [getElem!_pos _ _ (by simpa using h1)]
    simp
  · intro h
    obtain ⟨j, hj, rfl⟩ := List.mem_iff_getElem.1 h
    have := upto_mem zs.length (Nat.le_refl _) j hj
    rw [getElem!_pos _ _ (by simpa using hj)] at this
    unfold Lib.compact
    simpa using this
theorem mem_uniq {zs : List Int} {x : Int} : x ∈ uniq zs ↔ x ∈ zs := by
  unfold uniq
  rw [mem_compact]
  exact (List.mergeSort_perm zs _).mem_iff
theorem uniq_lt (zs : List Int) : (uniq zs).Pairwise (· < ·) := compact_lt (sorted_pair _)
theorem keys_lt (l : List Cl) : (keysOf l).Pairwise (· < ·) := uniq_lt _
/-- Two strictly rising rows of the same members are the same. -/
theorem rise_eq : ∀ {xs ys : List Int}, xs.Pairwise (· < ·) → ys.Pairwise (· < ·) → (∀ x, x ∈ xs ↔ x ∈ ys) → xs = ys
  | [], [], _, _, _ => rfl
  | [], y :: ys, _, _, h => absurd ((h y).2 (List.mem_cons_self ..)) (by simp)
  | x :: xs, [], _, _, h => absurd ((h x).1 (List.mem_cons_self ..)) (by simp)
  | x :: xs, y :: ys, h1, h2, h => by
    obtain ⟨a1, b1⟩ := List.pairwise_cons.1 h1
    obtain ⟨a2, b2⟩ := List.pairwise_cons.1 h2
    have hxy : x = y := by
      rcases List.mem_cons.1 ((h x).1 (List.mem_cons_self ..)) with e | e
      · exact e
      rcases List.mem_cons.1 ((h y).2 (List.mem_cons_self ..)) with e' | e'
      · exact e'.symm
      have := a1 y e'
      have := a2 x e
      omega
    subst hxy
    congr 1
    refine rise_eq b1 b2 fun z => ⟨fun hz => ?_, fun hz => ?_⟩
    · rcases List.mem_cons.1 ((h z).1 (List.mem_cons_of_mem _ hz)) with rfl | e
      · have := a1 z hz; omega
      · exact e
    · rcases List.mem_cons.1 ((h z).2 (List.mem_cons_of_mem _ hz)) with rfl | e
      · have := a2 z hz; omega
      · exact e
theorem rises_t {keys l : List Int} (h : risesB keys l = true) : (∀ x ∈ l, x ∈ keys) ∧ l.Pairwise (· < ·) := by
  have hg : ∀ j, j < l.length → GoodAt keys l j := of_decide_eq_true h
  have gd : ∀ i (hi : i < l.length), l.getD i 0 = l[i] := fun i hi => by rw [List.getD_eq_getElem?_getD, List.getElem?_eq_getElem hi]; rfl
  refine ⟨fun x hx => ?_, ?_⟩
  · obtain ⟨j, hj, rfl⟩ := List.mem_iff_getElem.1 hx
    have := (hg j hj).1
    rw [gd j hj] at this
    simpa using this
  · rw [List.pairwise_iff_getElem]
    intro i j hi hj hij
    have key : ∀ d, (hd : i + 1 + d < l.length) → l[i] < l[i + 1 + d] := by
      intro d
      induction d with
      | zero =>
        intro hd
        have := (hg (i + 1) hd).2 (by omega)
        rw [gd (i + 1) hd, Nat.add_sub_cancel, gd i hi] at this
        exact this
      | succ d ih =>
        intro hd
        have h1 := ih (by omega)
        have h2 := (hg (i + 1 + (d + 1)) hd).2 (by omega)
        have e : i + 1 + (d + 1) - 1 = i + 1 + d := by omega
        rw [gd _ hd, e, gd (i + 1 + d) (by omega)] at h2
        omega
    have := key (j - (i + 1)) (by omega)
    have e : i + 1 + (j - (i + 1)) = j := by omega
    simp only [e] at this
    exact this
/-- How many points are yes, behind the first one. -/
def yesN (qs : List Pt) (m : Nat) : Nat := ((qs.take m).tail.filter (·.is)).length
theorem yes_0 (qs : List Pt) : yesN qs 0 = 0 := by unfold yesN; simp
theorem yes_1 (qs : List Pt) : yesN qs 1 = 0 := by unfold yesN; cases qs <;> simp
theorem yes_le (qs : List Pt) (m : Nat) : yesN qs m ≤ qs.length := by
  unfold yesN
  refine Nat.le_trans (List.length_filter_le _ _) ?_
  rw [List.length_tail, List.length_take]
  omega
theorem yes_next {qs : List Pt} {j : Nat} {q : Pt} (h : qs[j + 1]? = some q) : yesN qs (j + 2) = yesN qs (j + 1) + (if q.is then 1 else 0) := by
  obtain ⟨hl, he⟩ := List.getElem?_eq_some_iff.1 h
  unfold yesN
  cases qs with
  | nil => simp at hl
  | cons p ps =>
    simp only [List.length_cons, Nat.add_lt_add_iff_right] at hl
    simp only [List.take_succ_cons, List.tail_cons, List.getElem_cons_succ] at he ⊢
    rw [List.take_succ_eq_append_getElem hl, List.filter_append, List.length_append, he]
    cases hq : q.is <;> simp [hq]
theorem pts_fact {a : Cl} {keys : List Int} : ∀ q ∈ ptsOf a keys, q.fr = a.fr ∧ q.era = a.era ∧ q.must = !openB a ∧ (openB a = false → q.to = a.to) ∧ q.u = a.u := by
  unfold ptsOf
  intro q hq
  cases ho : openB a
  · rw [ho] at hq
    simp only [Bool.false_and, Bool.false_or, Bool.false_eq_true, if_false] at hq
    split at hq
    · simp at hq
    split at hq
    · rw [List.mem_singleton.1 hq]; exact ⟨rfl, rfl, rfl, fun _ => rfl, rfl⟩
    rcases List.mem_cons.1 hq with rfl | hq
    · exact ⟨rfl, rfl, rfl, fun _ => rfl, rfl⟩
    split at hq
    · unfold nears at hq
      obtain ⟨x, _, rfl⟩ := List.mem_map.1 hq
      exact ⟨rfl, rfl, rfl, fun _ => rfl, rfl⟩
    · simp at hq
  · rw [ho] at hq
    split at hq
    · simp at hq
    rw [if_pos rfl] at hq
    rw [List.mem_singleton.1 hq]; exact ⟨rfl, rfl, rfl, (fun h => nomatch h), rfl⟩
theorem p_idle {a : Cl} (keys : List Int) (h : idleB a = true) : ptsOf a keys = [] := by unfold ptsOf; rw [h, Bool.or_true, if_pos rfl]
theorem p_oask {a : Cl} (keys : List Int) (h : openB a = true) (h2 : asksB a.k = true) : ptsOf a keys = [] := by unfold ptsOf; rw [h, h2, Bool.and_true, Bool.true_or, if_pos rfl]
theorem p_open {a : Cl} (keys : List Int) (h : openB a = true) (h2 : asksB a.k = false) (h3 : idleB a = false) : ptsOf a keys = [ptOpen a] := by unfold ptsOf; rw [h, h2, h3]; rfl
theorem p_plain {a : Cl} (keys : List Int) (h : openB a = false) (h3 : idleB a = false) (hk : a.k ≠ 17) : ptsOf a keys = [ptPlain a] := by unfold ptsOf; rw [h, h3, if_neg (by simp), if_neg (by simp), if_pos hk]
theorem p_near {a : Cl} (keys : List Int) (h : openB a = false) (h3 : idleB a = false) (hk : a.k = 17) : ptsOf a keys = ptFirst a :: (if a.is then nears a keys else []) := by unfold ptsOf; rw [h, h3, if_neg (by simp), if_neg (by simp), if_neg (fun q => q hk)]
/-- Of neighbours as many are yes as the list has. -/
theorem yes_all {a : Cl} {keys : List Int} (hp : keys.Pairwise (· < ·)) (hl : notListed keys a = false) (h1 : 1 < (ptsOf a keys).length) (hm : a.list.all isV = true) : yesN (ptsOf a keys) (ptsOf a keys).length = a.list.length := by
  cases hi : idleB a
  case true => rw [p_idle _ hi] at h1; simp at h1
  cases ho : openB a
  case true =>
    cases hs : asksB a.k
    · rw [p_open _ ho hs hi] at h1; simp at h1
    · rw [p_oask _ ho hs] at h1; simp at h1
  by_cases hk : a.k = 17
  case neg => rw [p_plain _ ho hi hk] at h1; simp at h1
  rw [p_near _ ho hi hk] at h1 ⊢
  cases hs : a.is
  · rw [hs] at h1; simp at h1
  have hlb : listedB a keys = true := by
    unfold notListed at hl
    rw [ho, hi] at hl
    simpa using hl
  unfold listedB at hlb
  rw [if_neg (by rw [hs]; simp [hk])] at hlb
  obtain ⟨g1, g2⟩ := rises_t hlb
  have hy : (nears a keys).filter (·.is) = a.list.map (ptNear a) := by
    unfold nears
    rw [List.filter_map]
    congr 1
    refine rise_eq ((hp.filter _).filter _) g2 fun x => ?_
    simp only [List.mem_filter, Function.comp_apply]
    constructor
    · rintro ⟨_, h⟩
      simpa [ptNear] using h
    · intro h
      exact ⟨⟨g1 x h, List.all_eq_true.1 hm x h⟩, by simpa [ptNear] using h⟩
  unfold yesN
  rw [List.take_length]
  simp only [if_true, List.tail_cons]
  rw [hy, List.length_map]
theorem near_len {a : Cl} {keys : List Int} (h : openB a = false) (h3 : idleB a = false) (hk : a.k = 17) (hs : a.is = true) : (ptsOf a keys).length = 1 + (keys.filter isV).length := by
  rw [p_near _ h h3 hk, hs]
  unfold nears
  simp
  omega
theorem filt_next {keys : List Int} {k : Nat} (h : k < keys.length) : ((keys.take (k + 1)).filter isV).length = ((keys.take k).filter isV).length + (if isV keys[k] then 1 else 0) := by
  rw [List.take_succ_eq_append_getElem h, List.filter_append, List.length_append]
  cases hq : isV keys[k] <;> simp [hq]
theorem points_get {l : List Cl} {keys : List Int} {i : Nat} {a : Cl} (hi : l[i]? = some a) {j : Nat} (hj : j < (ptsOf a keys).length) : (pointsK l keys)[(pointsK (l.take i) keys).length + j]? = (ptsOf a keys)[j]? := by
  obtain ⟨hl, he⟩ := List.getElem?_eq_some_iff.1 hi
  have e2 : l = l.take i ++ (a :: l.drop (i + 1)) := by rw [← he, ← List.drop_eq_getElem_cons hl, List.take_append_drop]
  have e : pointsK l keys = pointsK (l.take i) keys ++ (ptsOf a keys ++ pointsK (l.drop (i + 1)) keys) := by
    unfold pointsK
    conv => lhs; rw [e2]
    rw [List.flatMap_append, List.flatMap_cons]
  rw [e, List.getElem?_append_right (by omega), Nat.add_sub_cancel_left, List.getElem?_append_left hj]
theorem points_upto {l : List Cl} {keys : List Int} {i : Nat} {a : Cl} (hi : l[i]? = some a) : (pointsK (l.take i) keys).length + (ptsOf a keys).length ≤ (pointsK l keys).length := by
  obtain ⟨hl, he⟩ := List.getElem?_eq_some_iff.1 hi
  have h1 := points_next (keys := keys) hl
  rw [he] at h1
  have h2 : (pointsK (l.take (i + 1)) keys).length ≤ (pointsK l keys).length := by
    have e : pointsK l keys = pointsK (l.take (i + 1)) keys ++ pointsK (l.drop (i + 1)) keys := by
      unfold pointsK
      rw [← List.flatMap_append, List.take_append_drop]
    rw [e, List.length_append]
    omega
  rw [h1, List.length_append] at h2
  exact h2
end Go.Proofs.Ythepgdfhdkhhbaa
