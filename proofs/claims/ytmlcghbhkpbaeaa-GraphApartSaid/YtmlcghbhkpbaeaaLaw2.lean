/- What each statement asks, in words of lists. -/
import Derived.Test.YtmlcghbhkpbaeaaLaw
namespace Go.Proofs.Ytmlcghbhkpbaeaa
open Go.RowKit Aid

theorem keys_of {o : Op} (h1 : isV o.u = true) (h2 : edgeKind o.k = true → isV o.v = true) : keysB o = true := by
  unfold keysB
  cases he : edgeKind o.k
  · exact h1
  · simp [h1, h2 he]
theorem doA_low {l : List Arc} {o : Op} (h : o.k < 11 ∨ 17 < o.k) : doA l o = ⟨1, false, 0, 0, []⟩ := by unfold doA; rw [if_pos h]
theorem doA_key {l : List Arc} {o : Op} (h1 : 11 ≤ o.k) (h2 : o.k ≤ 17) (hk : keysB o = false) : doA l o = ⟨4, false, 0, 0, []⟩ := by unfold doA; rw [if_neg (by omega), if_pos hk]
theorem fit_ng {o : Op} (h : Fit o) : ¬ (o.k < 11 ∨ 17 < o.k) := by have := h.1; have := h.2.1; omega
theorem fit_nk {o : Op} (h : Fit o) : ¬ keysB o = false := by rw [h.2.2]; simp
theorem doA_11 {l : List Arc} {o : Op} (h : Fit o) (hk : o.k = 11) : doA l o = ⟨0, !inB l o.u, 0, 0, []⟩ := by unfold doA; rw [if_neg (fit_ng h), if_neg (fit_nk h), if_pos hk]
theorem doA_12 {l : List Arc} {o : Op} (h : Fit o) (hk : o.k = 12 ∨ o.k = 13) : doA l o = ⟨0, inB l o.u, 0, 0, []⟩ := by unfold doA; rw [if_neg (fit_ng h), if_neg (fit_nk h), if_neg (by omega), if_pos hk]
theorem doA_17 {l : List Arc} {o : Op} (h : Fit o) (hk : o.k = 17) : doA l o = ⟨0, inB l o.u, 0, 0, near l o.u⟩ := by unfold doA; rw [if_neg (fit_ng h), if_neg (fit_nk h), if_neg (by omega), if_neg (by omega), if_pos hk]
theorem doA_16 {l : List Arc} {o : Op} (h : Fit o) (hk : o.k = 16) : doA l o = ⟨0, hasB l o.u o.v, 0, hasW l o.u o.v, []⟩ := by unfold doA; rw [if_neg (fit_ng h), if_neg (fit_nk h), if_neg (by omega), if_neg (by omega), if_neg (by omega), if_pos hk]
theorem doA_14 {l : List Arc} {o : Op} (h : Fit o) (hk : o.k = 14 ∨ o.k = 15) : doA l o = if both l o = false then ⟨5, false, 0, 0, []⟩ else ⟨0, false, 0, 0, []⟩ := by
  unfold doA; rw [if_neg (fit_ng h), if_neg (fit_nk h), if_neg (by omega), if_neg (by omega), if_neg (by omega), if_neg (by omega)]
theorem bad_err {l : List Arc} {o : Op} (h : ¬ Fit o) : (doA l o).err = 1 ∨ (doA l o).err = 4 := by
  by_cases h1 : o.k < 11 ∨ 17 < o.k
  · rw [doA_low h1]; exact .inl rfl
  · cases hk : keysB o
    · rw [doA_key (by omega) (by omega) hk]; exact .inr rfl
    · exact absurd ⟨by omega, by omega, hk⟩ h
/-- What is refused turns nothing. -/
theorem err_do {l : List Arc} {o : Op} (h : (doA l o).err ≠ 0) : doG l o = l := by
  by_cases hf : Fit o
  · have hk : o.k = 11 ∨ o.k = 12 ∨ o.k = 13 ∨ o.k = 14 ∨ o.k = 15 ∨ o.k = 16 ∨ o.k = 17 := by have := hf.1; have := hf.2.1; omega
    rcases hk with k | k | k | k | k | k | k
    · rw [doA_11 hf k] at h; exact absurd rfl h
    · rw [doA_12 hf (.inl k)] at h; exact absurd rfl h
    · rw [doA_12 hf (.inr k)] at h; exact absurd rfl h
    · rw [doA_14 hf (.inl k)] at h
      cases hb : both l o
      · exact doG_else (by omega) (by omega) (fun _ => hb) (fun q => by omega)
      · rw [hb] at h; exact absurd rfl h
    · rw [doA_14 hf (.inr k)] at h
      cases hb : both l o
      · exact doG_else (by omega) (by omega) (fun q => by omega) (fun _ => hb)
      · rw [hb] at h; exact absurd rfl h
    · rw [doA_16 hf k] at h; exact absurd rfl h
    · rw [doA_17 hf k] at h; exact absurd rfl h
  · exact doG_bad hf
theorem ask_do {l : List Arc} {o : Op} (h : o.k = 13 ∨ o.k = 16 ∨ o.k = 17) : doG l o = l := doG_else (by omega) (by omega) (fun q => by omega) (fun q => by omega)
theorem ok_fit {l : List Arc} {o : Op} (h : (doA l o).err = 0) : Fit o ∧ (o.k = 14 ∨ o.k = 15 → both l o = true) := by
  by_cases hf : Fit o
  · refine ⟨hf, fun hk => ?_⟩
    rw [doA_14 hf hk] at h
    cases hb : both l o
    · rw [hb] at h; cases h
    · rfl
  · rcases bad_err (l := l) hf with q | q <;> (rw [q] at h; cases h)
/-! ### Done twice -/
theorem do_twice {l : List Arc} (h : R l) (o : Op) : doG (doG l o) o = doG l o := by
  refine same_rows (h.do o |>.do o).rises (h.do o).rises fun a => ?_
  rw [mem_do]
  constructor
  · rintro (⟨q, _⟩ | ⟨hf, (⟨hk, hn, rfl⟩ | ⟨hk, hb, hn, rfl⟩)⟩)
    · exact q
    · refine absurd hn ?_
      rw [Bool.not_eq_false]
      cases hi : hasB l o.u (-1)
      · exact hasB_iff.2 ⟨⟨o.u, -1, 0⟩, mem_do.2 (.inr ⟨hf, .inl ⟨hk, hi, rfl⟩⟩), rfl, rfl⟩
      · exact inB_do (o := o) hi (by omega)
    · refine absurd hn ?_
      rw [Bool.not_eq_false]
      have hb2 : both l o = true := by
        cases hb3 : both l o
        · rw [doG_else (by omega) (by omega) (fun _ => hb3) (fun q => by omega), hb3] at hb; cases hb
        · rfl
      cases hi : hasB l o.u o.v
      · exact hasB_iff.2 ⟨⟨o.u, o.v, o.w⟩, mem_do.2 (.inr ⟨hf, .inr ⟨hk, hb2, hi, rfl⟩⟩), rfl, rfl⟩
      · obtain ⟨b, hb1, e1, e2⟩ := hasB_iff.1 hi
        exact hasB_iff.2 ⟨b, mem_do.2 (.inl ⟨hb1, fun q => by rcases q.2 with ⟨q, _⟩ | ⟨q, _⟩ <;> omega⟩), e1, e2⟩
  · intro ha
    refine .inl ⟨ha, ?_⟩
    rintro ⟨hf, (⟨hk, q⟩ | ⟨hk, hb, e1, e2⟩)⟩
    · rcases mem_do.1 ha with ⟨_, hr⟩ | ⟨_, (⟨k, _⟩ | ⟨k, _⟩)⟩
      · exact hr ⟨hf, .inl ⟨hk, q⟩⟩
      · omega
      · omega
    · rcases mem_do.1 ha with ⟨_, hr⟩ | ⟨_, (⟨k, _⟩ | ⟨k, _⟩)⟩
      · have hb2 : both l o = true := by
          cases hb3 : both l o
          · rw [doG_else (by omega) (by omega) (fun q => by omega) (fun _ => hb3), hb3] at hb; cases hb
          · rfl
        exact hr ⟨hf, .inr ⟨hk, hb2, e1, e2⟩⟩
      · omega
      · omega
theorem end_in {l : List Arc} (h : R l) {a : Arc} (ha : a ∈ l) {u : Int} (hu : 0 ≤ u) (q : a.u = u ∨ a.v = u) : inB l u = true := by
  obtain ⟨_, _, _, q4, q5⟩ := h.row a ha
  rcases q with q | q
  · rw [← q]; exact q4
  · rw [← q]; exact q5 (by omega)
theorem vert_row {l : List Arc} (h : R l) {a : Arc} (ha : a ∈ l) (hv : a.v = -1) : a.w = 0 := (h.row a ha).2.1 hv
theorem edge_both {l : List Arc} (h : R l) {u v : Int} (hv : v ≠ -1) (hb : hasB l u v = true) : inB l u = true ∧ inB l v = true := by
  obtain ⟨a, ha, rfl, rfl⟩ := hasB_iff.1 hb
  obtain ⟨_, _, _, q4, q5⟩ := h.row a ha
  exact ⟨q4, q5 hv⟩
/-! ### AddV, RemV, AddE, RemE -/
theorem addv_in {l : List Arc} {o : Op} (hf : Fit o) (hk : o.k = 11) : inB (doG l o) o.u = true := by
  cases hi : hasB l o.u (-1)
  · exact hasB_iff.2 ⟨⟨o.u, -1, 0⟩, mem_do.2 (.inr ⟨hf, .inl ⟨hk, hi, rfl⟩⟩), rfl, rfl⟩
  · exact inB_do (o := o) hi (by omega)
theorem addv_same {l : List Arc} {o : Op} (hf : Fit o) (hk : o.k = 11) : sameB (doG l o) l = inB l o.u := by
  cases hi : inB l o.u
  · refine decide_eq_false fun e => ?_
    have := addv_in (l := l) hf hk
    rw [e, hi] at this; cases this
  · rw [doG_11 hf hk, withL_hit (x := ⟨o.u, -1, 0⟩) hi]; exact decide_eq_true rfl
theorem remv_out {l : List Arc} {o : Op} (hf : Fit o) (hk : o.k = 12) : inB (doG l o) o.u = false := by
  refine hasB_no.2 fun a ha q => ?_
  rw [doG_12 hf hk, mem_kept] at ha
  have := of_decide_eq_false (show decide (a.u = o.u ∨ a.v = o.u) = false from ha.2)
  omega
theorem remv_same {l : List Arc} (h : R l) {o : Op} (hf : Fit o) (hk : o.k = 12) : sameB (doG l o) l = !inB l o.u := by
  cases hi : inB l o.u
  · refine decide_eq_true ?_
    rw [doG_12 hf hk]
    unfold kept
    rw [List.filter_eq_self]
    intro a ha
    have : ends o a = false := decide_eq_false fun q => by rw [end_in h ha hf.u q] at hi; cases hi
    rw [this]; rfl
  · refine decide_eq_false fun e => ?_
    have := remv_out (l := l) hf hk
    rw [e, hi] at this; cases this
theorem adde_in {l : List Arc} {o : Op} (hf : Fit o) (hk : o.k = 14) (hb : both l o = true) : hasB (doG l o) o.u o.v = true := by
  cases hi : hasB l o.u o.v
  · exact hasB_iff.2 ⟨⟨o.u, o.v, o.w⟩, mem_do.2 (.inr ⟨hf, .inr ⟨hk, hb, hi, rfl⟩⟩), rfl, rfl⟩
  · obtain ⟨b, hb1, e1, e2⟩ := hasB_iff.1 hi
    exact hasB_iff.2 ⟨b, mem_do.2 (.inl ⟨hb1, fun q => by rcases q.2 with ⟨q, _⟩ | ⟨q, _⟩ <;> omega⟩), e1, e2⟩
theorem adde_w {l : List Arc} (h : R l) {o : Op} (hf : Fit o) (hk : o.k = 14) (hb : both l o = true) : hasW (doG l o) o.u o.v = if hasB l o.u o.v then hasW l o.u o.v else o.w := by
  cases hi : hasB l o.u o.v
  · have hm : (⟨o.u, o.v, o.w⟩ : Arc) ∈ doG l o := mem_do.2 (.inr ⟨hf, .inr ⟨hk, hb, hi, rfl⟩⟩)
    exact hasW_mem (h.do o).rises hm
  · rw [doG_14 hf hk hb, withL_hit (x := ⟨o.u, o.v, o.w⟩) hi]; rfl
theorem reme_out {l : List Arc} {o : Op} (hf : Fit o) (hk : o.k = 15) (hb : both l o = true) : hasB (doG l o) o.u o.v = false := by
  refine hasB_no.2 fun a ha q => ?_
  rw [doG_15 hf hk hb, mem_kept] at ha
  have := of_decide_eq_false (show decide (a.u = o.u ∧ a.v = o.v) = false from ha.2)
  exact this q
end Go.Proofs.Ytmlcghbhkpbaeaa
