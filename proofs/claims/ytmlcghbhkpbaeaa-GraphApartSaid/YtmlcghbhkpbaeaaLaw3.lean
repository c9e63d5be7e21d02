/- What GraphApart, GraphCounts, GraphOwn, GraphEnds ask, in words of lists. -/
import Derived.Test.YtmlcghbhkpbaeaaLaw2
namespace Go.Proofs.Ytmlcghbhkpbaeaa
open Go.RowKit Aid

/-! ### Apart -/
/-- Two operations that name no vertex in common (and no question for neighbours). -/
structure Far (a b : Op) : Prop where
  uu : a.u ≠ b.u
  uv : edgeKind b.k = true → a.u ≠ b.v
  vu : edgeKind a.k = true → a.v ≠ b.u
  na : a.k ≠ 17
  nb : b.k ≠ 17
theorem Far.symm {a b : Op} (h : Far a b) : Far b a := ⟨fun q => h.uu q.symm, fun k q => h.vu k q.symm, fun k q => h.uv k q.symm, h.nb, h.na⟩
/-- A row that a vertex isn't in stays, and none comes. -/
theorem far_row {l : List Arc} {o : Op} {a : Arc} (h1 : a.u ≠ o.u) (h2 : a.v ≠ o.u) : a ∈ doG l o ↔ a ∈ l := by
  rw [mem_do]
  constructor
  · rintro (⟨q, _⟩ | ⟨_, (⟨_, _, rfl⟩ | ⟨_, _, _, rfl⟩)⟩)
    · exact q
    · exact absurd rfl h1
    · exact absurd rfl h1
  · intro q
    refine .inl ⟨q, ?_⟩
    rintro ⟨_, (⟨_, q | q⟩ | ⟨_, _, q, _⟩)⟩
    · exact h1 q
    · exact h2 q
    · exact h1 q
theorem bool_iff {x y : Bool} (h : x = true ↔ y = true) : x = y := by cases x <;> cases y <;> simp_all
theorem far_hasB {l : List Arc} {o : Op} {u v : Int} (h1 : u ≠ o.u) (h2 : v ≠ o.u) : hasB (doG l o) u v = hasB l u v := bool_iff (by
  rw [hasB_iff, hasB_iff]
  constructor
  · rintro ⟨a, ha, rfl, rfl⟩
    exact ⟨a, (far_row h1 h2).1 ha, rfl, rfl⟩
  · rintro ⟨a, ha, rfl, rfl⟩
    exact ⟨a, (far_row h1 h2).2 ha, rfl, rfl⟩)
theorem hasW_no {l : List Arc} {u v : Int} (h : hasB l u v = false) : hasW l u v = 0 := no_weight h
theorem far_hasW {l : List Arc} (hs : Rises l) {o : Op} {u v : Int} (h1 : u ≠ o.u) (h2 : v ≠ o.u) : hasW (doG l o) u v = hasW l u v := by
  cases hb : hasB l u v
  · rw [hasW_no hb, hasW_no (by rw [far_hasB h1 h2]; exact hb)]
  · obtain ⟨a, ha, rfl, rfl⟩ := hasB_iff.1 hb
    rw [hasW_mem hs ha, hasW_mem (rises_do hs o) ((far_row h1 h2).2 ha)]
theorem far_inB {l : List Arc} {o : Op} {u : Int} (h1 : u ≠ o.u) : inB (doG l o) u = inB l u := by
  by_cases hf : Fit o
  · exact far_hasB h1 (by have := hf.u; omega)
  · rw [doG_bad hf]
theorem edge_of {k : Int} (h : k = 14 ∨ k = 15 ∨ k = 16) : edgeKind k = true := decide_eq_true h
theorem far_both {l : List Arc} {a b : Op} (h : Far a b) (hk : edgeKind b.k = true) : both (doG l a) b = both l b := by
  unfold both; rw [far_inB (Ne.symm h.uu), far_inB (Ne.symm (h.uv hk))]
/-- The other's answer is as it was. -/
theorem far_doA {l : List Arc} (hs : Rises l) {a b : Op} (h : Far a b) : doA (doG l a) b = doA l b := by
  by_cases hf : Fit b
  · have hk : b.k = 11 ∨ b.k = 12 ∨ b.k = 13 ∨ b.k = 14 ∨ b.k = 15 ∨ b.k = 16 ∨ b.k = 17 := by have := hf.1; have := hf.2.1; omega
    rcases hk with k | k | k | k | k | k | k
    · rw [doA_11 hf k, doA_11 hf k, far_inB (Ne.symm h.uu)]
    · rw [doA_12 hf (.inl k), doA_12 hf (.inl k), far_inB (Ne.symm h.uu)]
    · rw [doA_12 hf (.inr k), doA_12 hf (.inr k), far_inB (Ne.symm h.uu)]
    · rw [doA_14 hf (.inl k), doA_14 hf (.inl k), far_both h (edge_of (by omega))]
    · rw [doA_14 hf (.inr k), doA_14 hf (.inr k), far_both h (edge_of (by omega))]
    · have e := edge_of (.inr (.inr k))
      rw [doA_16 hf k, doA_16 hf k, far_hasB (Ne.symm h.uu) (Ne.symm (h.uv e)), far_hasW hs (Ne.symm h.uu) (Ne.symm (h.uv e))]
    · exact absurd k h.nb
  · by_cases h1 : b.k < 11 ∨ 17 < b.k
    · rw [doA_low h1, doA_low h1]
    · have hk : keysB b = false := by
        cases hk : keysB b
        · rfl
        · exact absurd ⟨by omega, by omega, hk⟩ hf
      rw [doA_key (by omega) (by omega) hk, doA_key (by omega) (by omega) hk]
theorem far_rem {l : List Arc} {a b : Op} (h : Far a b) (x : Arc) : Rem (doG l a) b x ↔ Rem l b x := by
  unfold Rem
  by_cases k : b.k = 15
  · rw [far_both h (edge_of (by omega))]
  · simp [k]
theorem far_add {l : List Arc} {a b : Op} (h : Far a b) (x : Arc) : Add (doG l a) b x ↔ Add l b x := by
  unfold Add
  by_cases k : b.k = 14
  · have e := edge_of (.inl k)
    rw [far_both h e, far_hasB (Ne.symm h.uu) (Ne.symm (h.uv e))]
    simp [k]
  · have e : hasB (doG l a) b.u (-1) = hasB l b.u (-1) := far_inB (Ne.symm h.uu)
    rw [e]
    simp [k]
theorem add_stays {l : List Arc} {a b : Op} (h : Far a b) {x : Arc} (hx : Add l a x) : ¬ Rem l b x := by
  obtain ⟨hf, (⟨hk, _, rfl⟩ | ⟨hk, _, _, rfl⟩)⟩ := hx
  · rintro ⟨hg, (⟨_, q | q⟩ | ⟨_, _, q, _⟩)⟩
    · exact h.uu q
    · have := hg.u; simp only at q; omega
    · exact h.uu q
  · rintro ⟨hg, (⟨_, q | q⟩ | ⟨_, _, q, _⟩)⟩
    · exact h.uu q
    · exact h.vu (edge_of (.inl hk)) q
    · exact h.uu q
/-- The graph behind both is the same. -/
theorem far_do {l : List Arc} (hs : Rises l) {a b : Op} (h : Far a b) : doG (doG l a) b = doG (doG l b) a := by
  refine same_rows (rises_do (rises_do hs a) b) (rises_do (rises_do hs b) a) fun x => ?_
  rw [mem_do, far_rem h, far_add h, mem_do, mem_do (l := doG l b), far_rem h.symm, far_add h.symm, mem_do]
  have e1 : Add l a x → ¬ Rem l b x := add_stays h
  have e2 : Add l b x → ¬ Rem l a x := add_stays h.symm
  constructor
  · rintro (⟨⟨q, r⟩ | q, r2⟩ | q)
    · exact .inl ⟨.inl ⟨q, r2⟩, r⟩
    · exact .inr q
    · exact .inl ⟨.inr q, e2 q⟩
  · rintro (⟨⟨q, r⟩ | q, r2⟩ | q)
    · exact .inl ⟨.inl ⟨q, r2⟩, r⟩
    · exact .inr q
    · exact .inl ⟨.inr q, e1 q⟩

/-! ### Counts -/
def touch (u : Int) (a : Arc) : Bool := decide (a.u = u ∨ (a.v = u ∧ 0 ≤ a.v))
def touches (l : List Arc) (u : Int) : Nat := (l.filter (touch u)).length
theorem touches_le (l : List Arc) (u : Int) : touches l u ≤ l.length := List.length_filter_le _ _
theorem touch_next {l : List Arc} {u : Int} {k : Nat} (h : k < l.length) : touches (l.take (k + 1)) u = touches (l.take k) u + (if touch u l[k] then 1 else 0) := by
  unfold touches
  rw [List.take_succ_eq_append_getElem h, List.filter_append, List.length_append]
  congr 1
  rw [List.filter_cons]; split <;> simp
theorem near_len_next {l : List Arc} {u : Int} {k : Nat} (h : k < l.length) : (near (l.take (k + 1)) u).length = (near (l.take k) u).length + (if isNear u l[k] then 1 else 0) := by
  rw [near_next h, List.length_append]; split <;> rfl
theorem filter_split : ∀ (l : List Arc) (p : Arc → Bool), (l.filter fun a => !p a).length + (l.filter p).length = l.length
  | [], _ => rfl
  | a :: l, p => by
    have := filter_split l p
    rw [List.filter_cons, List.filter_cons]
    cases h : p a <;> simp <;> omega
theorem remv_len {l : List Arc} {o : Op} (hf : Fit o) (hk : o.k = 12) : (doG l o).length + touches l o.u = l.length := by
  rw [doG_12 hf hk]
  unfold kept touches
  have e : l.filter (touch o.u) = l.filter (ends o) := List.filter_congr fun a _ => by
    unfold touch ends
    have := hf.u
    refine decide_eq_decide.2 ?_
    omega
  rw [e]
  exact filter_split l (ends o)
theorem touch_in {l : List Arc} (h : R l) {u : Int} (hu : 0 ≤ u) : inB l u = decide (0 < touches l u) := by
  cases hi : inB l u
  · refine (decide_eq_false ?_).symm
    intro q
    obtain ⟨a, ha⟩ := List.length_pos_iff_exists_mem.1 q
    rw [List.mem_filter] at ha
    have := of_decide_eq_true (show decide (a.u = u ∨ (a.v = u ∧ 0 ≤ a.v)) = true from ha.2)
    rw [end_in h ha.1 hu (by omega)] at hi; cases hi
  · obtain ⟨a, ha, h1, _⟩ := inB_iff.1 hi
    refine (decide_eq_true ?_).symm
    exact List.length_pos_iff_exists_mem.2 ⟨a, List.mem_filter.2 ⟨ha, decide_eq_true (.inl h1)⟩⟩
theorem one_key : ∀ {l : List Arc}, l.Pairwise Lt → ∀ u v : Int, (l.filter fun a => decide (a.u = u ∧ a.v = v)).length ≤ 1
  | [], _, _, _ => by simp
  | a :: l, h, u, v => by
    rw [List.pairwise_cons] at h
    rw [List.filter_cons]
    split
    · rename_i q
      have hq := of_decide_eq_true q
      have : l.filter (fun a => decide (a.u = u ∧ a.v = v)) = [] := by
        rw [List.filter_eq_nil_iff]
        intro b hb hc
        have := of_decide_eq_true hc
        have := h.1 b hb
        unfold Lt at this; omega
      rw [this]; simp
    · exact one_key h.2 u v
theorem reme_len {l : List Arc} (hs : Rises l) (o : Op) (hk : o.k = 15) : (doG l o).length = l.length ∨ (doG l o).length + 1 = l.length := by
  by_cases hf : Fit o
  · cases hb : both l o
    · rw [doG_else (by omega) (by omega) (fun q => by omega) (fun _ => hb)]; exact .inl rfl
    · rw [doG_15 hf hk hb]
      unfold kept
      have h1 := filter_split l (isE o)
      have h2 : (l.filter (isE o)).length ≤ 1 := one_key (rises_pair.1 hs) o.u o.v
      omega
  · rw [doG_bad hf]; exact .inl rfl
theorem grow_len {l : List Arc} {o : Op} (h1 : ¬ (o.k = 12 ∧ (doA l o).err = 0)) (h2 : o.k ≠ 15) : l.length ≤ (doG l o).length := by
  by_cases hf : Fit o
  · by_cases k1 : o.k = 11
    · rw [doG_11 hf k1, len_withL]; omega
    · by_cases k2 : o.k = 12
      · exact absurd ⟨k2, by rw [doA_12 hf (.inl k2)]⟩ h1
      · by_cases k3 : o.k = 14 ∧ both l o = true
        · rw [doG_14 hf k3.1 k3.2, len_withL]; omega
        · rw [doG_else k1 k2 (fun q => by cases hb : both l o; rfl; exact absurd ⟨q, hb⟩ k3) (fun q => absurd q h2)]; omega
  · rw [doG_bad hf]; omega

/-! ### Ends -/
theorem fit_of {k u v w : Int} (h1 : 11 ≤ k) (h2 : k ≤ 17) (hu : isV u = true) (hv : edgeKind k = true → isV v = true) : Fit ⟨k, u, v, w⟩ := ⟨h1, h2, keys_of hu hv⟩
/-- What stands behind a vertex' removal: the rows that it isn't at an end of. -/
theorem remv_has {l : List Arc} (h : R l) {o : Op} (hf : Fit o) (hk : o.k = 12) {a : Arc} (ha : a ∈ l) : hasB (doG l o) a.u a.v = !(ends o a) ∧ (ends o a = false → hasW (doG l o) a.u a.v = a.w) := by
  cases he : ends o a
  · have hm : a ∈ doG l o := by rw [doG_12 hf hk, mem_kept]; exact ⟨ha, he⟩
    exact ⟨hasB_iff.2 ⟨a, hm, rfl, rfl⟩, fun _ => hasW_mem (h.do o).rises hm⟩
  · refine ⟨hasB_no.2 fun b hb q => ?_, fun q => by cases q⟩
    rw [doG_12 hf hk, mem_kept] at hb
    have := rises_mem h.rises hb.1 ha q.1 q.2
    rw [this, he] at hb; exact absurd hb.2 (by simp)
theorem back_len {l : List Arc} {o p : Op} (hf : Fit o) (hk : o.k = 12) (hg : Fit p) (hp : p.k = 11) (hu : o.u = p.u) : (doG (doG l o) p).length = (doG l o).length + 1 := by
  rw [doG_11 hg hp, len_withL]
  have : hasB (doG l o) p.u (-1) = false := by rw [← hu]; exact remv_out hf hk
  simp only [this]; rfl
theorem back_near {l : List Arc} {o p : Op} (hf : Fit o) (hk : o.k = 12) (hg : Fit p) (hp : p.k = 11) (hu : o.u = p.u) : near (doG (doG l o) p) o.u = [] := by
  unfold near
  have : (doG (doG l o) p).filter (isNear o.u) = [] := by
    rw [List.filter_eq_nil_iff]
    intro a ha q
    have q' := of_decide_eq_true (show decide (a.u = o.u ∧ 0 ≤ a.v) = true from q)
    rw [doG_11 hg hp, mem_withL] at ha
    rcases ha with ha | ⟨_, rfl⟩
    · rw [doG_12 hf hk, mem_kept] at ha
      have := of_decide_eq_false (show decide (a.u = o.u ∨ a.v = o.u) = false from ha.2)
      omega
    · have := q'.2; simp only at this; omega
  rw [this]; rfl
/-! ### Own -/
theorem own_back {l : List Arc} (h : R l) {o p : Op} (hf : Fit o) (hk : o.k = 15) (hg : Fit p) (hp : p.k = 14) (hu : o.u = p.u) (hv : o.v = p.v) (hb : both l o = true) : doG (doG (doG l o) p) o = doG l o := by
  have hv0 := hf.v (.inr (.inl hk))
  have h1 : both (doG l o) p = true := by
    obtain ⟨q1, q2⟩ := both_iff.1 hb
    refine both_iff.2 ⟨?_, ?_⟩
    · rw [← hu]; exact inB_do q1 (by omega)
    · rw [← hv]; exact inB_do q2 (by omega)
  have h2 : both (doG (doG l o) p) o = true := by
    obtain ⟨q1, q2⟩ := both_iff.1 h1
    refine both_iff.2 ⟨?_, ?_⟩
    · rw [hu]; exact inB_do q1 (by omega)
    · rw [hv]; exact inB_do q2 (by omega)
  have h3 : hasB (doG l o) p.u p.v = false := by rw [← hu, ← hv]; exact reme_out hf hk hb
  refine same_rows ((h.do o).do p |>.do o).rises (h.do o).rises fun a => ?_
  rw [doG_15 hf hk h2, mem_kept, doG_14 hg hp h1, mem_withL]
  constructor
  · rintro ⟨q | ⟨_, rfl⟩, r⟩
    · exact q
    · have := of_decide_eq_false (show decide (p.u = o.u ∧ p.v = o.v) = false from r)
      exact absurd ⟨hu.symm, hv.symm⟩ this
  · intro q
    refine ⟨.inl q, ?_⟩
    rw [doG_15 hf hk hb, mem_kept] at q
    exact q.2
theorem own_len {l : List Arc} {o p : Op} (hf : Fit o) (hk : o.k = 15) (hg : Fit p) (hp : p.k = 14) (hu : o.u = p.u) (hv : o.v = p.v) (hb : both l o = true) (h1 : both (doG l o) p = true) : (doG (doG l o) p).length = (doG l o).length + 1 := by
  rw [doG_14 hg hp h1, len_withL]
  have : hasB (doG l o) p.u p.v = false := by rw [← hu, ← hv]; exact reme_out hf hk hb
  simp only [this]; rfl
theorem own_gone {l : List Arc} (h : R l) {p o : Op} (hp : p.k = 14) (hf : Fit o) (hk : o.k = 12) (hu : p.u = o.u) : doG (doG l p) o = doG l o := by
  refine same_rows ((h.do p).do o).rises (h.do o).rises fun a => ?_
  rw [doG_12 hf hk, mem_kept, doG_12 hf hk, mem_kept, mem_do]
  constructor
  · rintro ⟨⟨q, _⟩ | ⟨_, (⟨k, _⟩ | ⟨_, _, _, rfl⟩)⟩, r⟩
    · exact ⟨q, r⟩
    · omega
    · have := of_decide_eq_false (show decide (p.u = o.u ∨ p.v = o.u) = false from r)
      exact absurd (.inl hu) this
  · rintro ⟨q, r⟩
    exact ⟨.inl ⟨q, fun z => by rcases z.2 with ⟨z, _⟩ | ⟨z, _⟩ <;> omega⟩, r⟩
end Go.Proofs.Ytmlcghbhkpbaeaa
