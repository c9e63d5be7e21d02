/- The plain law of HistFewer; a row of calls of the call's own. -/
import Derived.Test.YthepgdfhdkhhbaaPtsPlain
namespace Go.Proofs.Ythepgdfhdkhhbaa
open Go.RowKit Aid

def flatC : List Cl → List Value
  | [] => []
  | p :: l => p.cells ++ flatC l
theorem flatC_append : ∀ l k : List Cl, flatC (l ++ k) = flatC l ++ flatC k
  | [], _ => rfl
  | p :: l, k => by rw [List.cons_append, flatC, flatC, flatC_append l k, List.append_assoc]
theorem flatC_length : ∀ l : List Cl, (flatC l).length = l.length * 13
  | [] => rfl
  | p :: l => by rw [flatC, List.length_append, flatC_length l, List.length_cons]; show 13 + _ = _; omega
theorem flatC_get : ∀ (ps : List Cl) {k : Nat} {p : Cl} {j : Nat} {v : Value}, ps[k]? = some p → p.cells[j]? = some v → (flatC ps)[k * 13 + j]? = some v
  | [], k, p, j, v, h, _ => by simp at h
  | q :: ps, 0, p, j, v, h, hj => by
    obtain rfl : q = p := by simpa using h
    rw [flatC, Nat.zero_mul, Nat.zero_add, List.getElem?_append_left (List.getElem?_eq_some_iff.1 hj).1]
    exact hj
  | q :: ps, k + 1, p, j, v, h, hj => by
    have h' : ps[k]? = some p := by simpa using h
    have hq : q.cells.length = 13 := rfl
    rw [flatC, List.getElem?_append_right (by rw [hq]; omega), hq]
    have := flatC_get ps h' hj
    rw [← this]
    congr 1
    omega
theorem flatC_one : ∀ l : List Cl, ∀ v ∈ flatC l, v.oneCell' = true
  | [], v, hv => by simp [flatC] at hv
  | p :: l, v, hv => by
    rw [flatC, List.mem_append] at hv
    rcases hv with hv | hv
    · unfold Cl.cells at hv
      simp only [List.mem_cons, List.not_mem_nil, or_false] at hv
      rcases hv with rfl | rfl | rfl | rfl | rfl | rfl | rfl | rfl | rfl | rfl | rfl | rfl | rfl <;> rfl
    · exact flatC_one l v hv
/-- A row of the call's own reads as a slice of calls. -/
theorem own_cls {w : World} {base : Nat} {A : Option Addr} {n c : Nat} {l : List Cl} (h : w.ownsRow base 32 13 (.slice A n c) n (flatC l)) (hL : ∀ a ∈ l, Sl w a.A (a.list.map (Value.int .i64))) : Cls w A l := by
  refine ⟨hL, fun hp => ?_⟩
  obtain ⟨b, off, rfl, hc⟩ := own_slk h (by rw [flatC_length]; omega)
  exact ⟨b, off, rfl, fun i a hi j v hj => by
    have := hc _ v (flatC_get l hi hj)
    rwa [← Nat.add_assoc] at this⟩
theorem own_cap {w : World} {base e size : Nat} {A : Option Addr} {n c : Nat} {xs : List Value} (h : w.ownsRow base e size (.slice A n c) n xs) : n ≤ c ∧ c ≤ 9223372036854775807 := by
  rcases h.2 with ⟨h1, h2⟩ | ⟨g, cap, cur, hv, _, _, h3, h4, _⟩
  · cases h1; exact ⟨Nat.le_refl _, by omega⟩
  · cases hv; unfold maxLen at h4; exact ⟨h3, by omega⟩
theorem call_info : (Try.prog.info? 32).map (fun i => (i.zero, i.size, i.bytes)) = some (some (.agg #[.int .i64 0, .int .i64 0, .int .i64 0, .int .i64 0, .int .u64 0, .int .i64 0, .int .i64 0, .int .i64 0, .int .i64 0, .bool false, .int .i64 0, .int .u64 0, .slice none 0 0]), 13, 120) := by kernel_rfl
theorem sl_call (W : World) (a : Cl) : Sl (W.alloc (bx a)) (some ⟨W.heap.size, 0, none⟩) (flatC [a]) := fun _ => ⟨_, _, rfl, fun j v hj => by
  unfold bx
  rw [World.cell?_alloc_new]
  have : flatC [a] = a.cells := by simp [flatC]
  rw [this] at hj
  unfold Cl.cells at hj
  simpa using hj⟩
/-- What is left of the first i calls, where d says which are left out. -/
def keptN (d : Nat → Bool) (l : List Cl) : Nat → List Cl
  | 0 => []
  | i + 1 => keptN d l i ++ (if d i then [] else (l[i]?).toList)
theorem kept_sub (d : Nat → Bool) (l : List Cl) : ∀ i, List.Sublist (keptN d l i) (l.take i)
  | 0 => by simp [keptN]
  | i + 1 => by
    rw [keptN]
    rcases Nat.lt_or_ge i l.length with h | h
    · rw [List.take_succ_eq_append_getElem h, List.getElem?_eq_getElem h]
      refine List.Sublist.append (kept_sub d l i) ?_
      split
      · exact List.nil_sublist _
      · exact List.Sublist.refl _
    · rw [List.getElem?_eq_none h, List.take_of_length_le (by omega)]
      have := kept_sub d l i
      rw [List.take_of_length_le h] at this
      split <;> simpa using this
theorem kept_out {d : Nat → Bool} {l : List Cl} {i : Nat} (h : d i = true) : keptN d l (i + 1) = keptN d l i := by rw [keptN, if_pos h, List.append_nil]
theorem kept_in {d : Nat → Bool} {l : List Cl} {i : Nat} {a : Cl} (h : d i = false) (ha : l[i]? = some a) : keptN d l (i + 1) = keptN d l i ++ [a] := by rw [keptN, h, ha]; rfl
theorem right_iff {l : List Cl} : RightP l ↔ (∀ b ∈ l, mayB b = true) ∧ l.Pairwise (fun a b => fitsB a b = true) := by
  constructor
  · intro h
    refine ⟨fun b hb => ?_, List.pairwise_iff_getElem.2 fun i j hi hj hij => ?_⟩
    · obtain ⟨j, hj, rfl⟩ := List.mem_iff_getElem.1 hb
      exact (h j _ (List.getElem?_eq_getElem hj)).1
    · exact (h j _ (List.getElem?_eq_getElem hj)).2 i _ hij (List.getElem?_eq_getElem hi)
  · rintro ⟨h1, h2⟩ j b hb
    refine ⟨h1 b (List.mem_of_getElem? hb), fun k a hk ha => ?_⟩
    obtain ⟨hj, rfl⟩ := List.getElem?_eq_some_iff.1 hb
    obtain ⟨hk', rfl⟩ := List.getElem?_eq_some_iff.1 ha
    exact List.pairwise_iff_getElem.1 h2 k j hk' hj hk
theorem right_sub {l k : List Cl} (h : List.Sublist k l) (hr : RightP l) : RightP k := by
  rw [right_iff] at hr ⊢
  exact ⟨fun b hb => hr.1 b (h.subset hb), hr.2.sublist h⟩
theorem names_mem {l : List Cl} {x : Int} : x ∈ namesOf l ↔ ∃ a ∈ l, x ∈ (if edgeB a.k then [a.u, a.v] else [a.u]) := by unfold namesOf; rw [List.mem_flatMap]
theorem keys_sub {l k : List Cl} (h : List.Sublist k l) {x : Int} (hx : x ∈ keysOf k) : x ∈ keysOf l := by
  unfold keysOf at hx ⊢
  rw [mem_uniq, names_mem] at hx ⊢
  obtain ⟨a, ha, h2⟩ := hx
  exact ⟨a, h.subset ha, h2⟩
/-- A call's own points. -/
def oneP (a : Cl) : Nat := (pointsOf [a]).length
def sumP (f : Cl → Bool) (k : List Cl) : Nat := (k.map fun a => if f a then oneP a else 0).sum
theorem sumP_append (f : Cl → Bool) (k j : List Cl) : sumP f (k ++ j) = sumP f k + sumP f j := by unfold sumP; rw [List.map_append, List.sum_append]
theorem sumP_one (f : Cl → Bool) (a : Cl) : sumP f [a] = if f a then oneP a else 0 := by unfold sumP; simp
def notNear (a : Cl) : Bool := decide (a.k ≠ 17)
def turns (a : Cl) : Bool := decide (a.k ≠ 17 ∧ a.k ≠ 13)
theorem sum_le (k : List Cl) : sumP turns k ≤ sumP notNear k := by
  induction k with
  | nil => exact Nat.le_refl _
  | cons a k ih =>
    have h1 := sumP_append turns [a] k
    have h2 := sumP_append notNear [a] k
    simp only [List.cons_append, List.nil_append] at h1 h2
    rw [h1, h2, sumP_one, sumP_one]
    refine Nat.add_le_add ?_ ih
    cases ht : turns a
    · simp
    · have : notNear a = true := decide_eq_true (of_decide_eq_true ht).1
      rw [this]
      exact Nat.le_refl _
theorem sum_bound (f : Cl → Bool) (k : List Cl) : sumP f k ≤ 3 * k.length := by
  induction k with
  | nil => exact Nat.zero_le _
  | cons a k ih =>
    have h1 := sumP_append f [a] k
    simp only [List.cons_append, List.nil_append] at h1
    rw [h1, sumP_one, List.length_cons]
    have := points_one_le a
    unfold oneP
    split <;> omega
/-- A point that is counted. -/
def cnt (p : Pt) : Bool := !p.any && decide (p.k ≠ 13)
theorem asks_not {a : Cl} (h : a.k ≠ 17) (h2 : asksB a.k = true) (h3 : a.k ≠ 13) : a.k = 16 := by
  have : a.k = 13 ∨ a.k = 16 ∨ a.k = 17 := of_decide_eq_true h2
  omega
theorem pts_alike {a : Cl} (h : a.k ≠ 17) (k1 k2 : List Int) : ptsOf a k1 = ptsOf a k2 := by
  unfold ptsOf
  rw [if_pos h, if_pos h]
theorem cnt_pts (a : Cl) (keys : List Int) : ((ptsOf a keys).filter cnt).length = if turns a then oneP a else 0 := by
  by_cases h : a.k = 17
  · have ht : turns a = false := decide_eq_false (fun q => q.1 h)
    rw [ht]
    cases hi : idleB a
    case true => rw [p_idle _ hi]; rfl
    cases ho : openB a
    case true => rw [p_oask _ ho (decide_eq_true (.inr (.inr h)))]; rfl
    rw [p_near _ ho hi h]
    have e : (if a.is then nears a keys else []).filter cnt = [] := by
      rw [List.filter_eq_nil_iff]
      intro p hp
      split at hp
      · unfold nears at hp
        obtain ⟨x, _, rfl⟩ := List.mem_map.1 hp
        simp [cnt, ptNear]
      · simp at hp
    rw [List.filter_cons, e]
    simp [cnt, ptFirst]
  · unfold oneP
    rw [points_one, pts_alike h keys (keysOf [a])]
    by_cases h2 : a.k = 13
    · have ht : turns a = false := decide_eq_false (fun q => q.2 h2)
      rw [ht]
      have e : (ptsOf a (keysOf [a])).filter cnt = [] := by
        rw [List.filter_eq_nil_iff]
        intro p hp
        unfold ptsOf at hp
        split at hp
        · simp at hp
        split at hp
        · rw [List.mem_singleton.1 hp]; simp [cnt, ptOpen, h2]
        · rw [List.mem_singleton.1 hp]; simp [cnt, ptPlain, h2]
      rw [e]
      rfl
    · have ht : turns a = true := decide_eq_true ⟨h, h2⟩
      rw [ht, if_pos rfl]
      have e : (ptsOf a (keysOf [a])).filter cnt = ptsOf a (keysOf [a]) := by
        rw [List.filter_eq_self]
        intro p hp
        unfold ptsOf at hp
        split at hp
        · simp at hp
        split at hp
        · rw [List.mem_singleton.1 hp]; simp [cnt, ptOpen, h2]
        · rw [List.mem_singleton.1 hp]; simp [cnt, ptPlain, h2]
      rw [e]
theorem cnt_points (keys : List Int) : ∀ k : List Cl, ((pointsK k keys).filter cnt).length = sumP turns k
  | [] => rfl
  | a :: k => by
    have h1 := sumP_append turns [a] k
    simp only [List.cons_append, List.nil_append] at h1
    have h2 := cnt_points keys k
    unfold pointsK at h2 ⊢
    rw [List.flatMap_cons, List.filter_append, List.length_append, h2, cnt_pts, h1, sumP_one]
theorem cnt_next {ps : List Pt} {k : Nat} {p : Pt} (h : ps[k]? = some p) : ((ps.take (k + 1)).filter cnt).length = ((ps.take k).filter cnt).length + (if cnt p then 1 else 0) := by
  obtain ⟨hl, he⟩ := List.getElem?_eq_some_iff.1 h
  rw [List.take_succ_eq_append_getElem hl, List.filter_append, List.length_append, he]
  cases hq : cnt p <;> simp [hq]
theorem sum_next {f : Cl → Bool} {l : List Cl} {k : Nat} {a : Cl} (h : l[k]? = some a) : sumP f (l.take (k + 1)) = sumP f (l.take k) + (if f a then oneP a else 0) := by
  obtain ⟨hl, he⟩ := List.getElem?_eq_some_iff.1 h
  rw [List.take_succ_eq_append_getElem hl, sumP_append, he, sumP_one]
end Go.Proofs.Ythepgdfhdkhhbaa
