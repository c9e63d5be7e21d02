/- LFlat, PMore. -/
import Derived.Test.YtpdfmfkoopdfgaaGreatDoorC00
import Derived.Test.YtpdfmfkoopdfgaaGreatDoorC01
import Derived.Test.YtpdfmfkoopdfgaaGreatDoorB23
import Derived.Test.YtpdfmfkoopdfgaaGreatDoorB28
import Derived.Test.YtpdfmfkoopdfgaaGreatDoorB33
set_option linter.unusedVariables false
set_option linter.unusedSimpArgs false
section
namespace Go.Proofs.YtpdfmfkoopdfgaaGreatDoor
set_option maxRecDepth 100000
open Go.RowKit Aid Gr Hs LinP HeapP

theorem flatC_at : ∀ (l : List Cl) (j : Nat) (u : Value), (flatC l)[j]? = some u → ∃ (i k : Nat) (p : Cl), l[i]? = some p ∧ p.cells[k]? = some u ∧ j = i * 13 + k
  | [], j, u, h => by simp [flatC] at h
  | q :: l, j, u, h => by
    have hq : q.cells.length = 13 := rfl
    rw [flatC] at h
    rcases Nat.lt_or_ge j 13 with r | r
    · rw [List.getElem?_append_left (by rw [hq]; exact r)] at h
      exact ⟨0, j, q, rfl, h, by omega⟩
    · rw [List.getElem?_append_right (by rw [hq]; exact r), hq] at h
      obtain ⟨i, k, p, h1, h2, h3⟩ := flatC_at l (j - 13) u h
      exact ⟨i + 1, k, p, by simpa using h1, h2, by omega⟩
theorem cls_sl {w : World} {A : Option Addr} {l : List Cl} (h : Cls w A l) : Sl w A (flatC l) := fun hp => by
  rw [flatC_length] at hp
  obtain ⟨b, off, hA, hc⟩ := h.2 (by omega)
  refine ⟨b, off, hA, fun j u hu => ?_⟩
  obtain ⟨i, k, p, h1, h2, rfl⟩ := flatC_at l j u hu
  have := hc i p h1 k u h2
  rw [← Nat.add_assoc]; exact this
theorem flatC_set : ∀ (l : List Cl) {q : Nat} {c c' : Cl} {k : Nat} {u : Value}, l[q]? = some c → k < 13 → c'.cells = c.cells.set k u → (flatC l).set (q * 13 + k) u = flatC (l.set q c')
  | [], q, c, c', k, u, h, _, _ => by simp at h
  | p :: l, 0, c, c', k, u, h, hk, he => by
    obtain rfl : p = c := by simpa using h
    have hq : p.cells.length = 13 := rfl
    rw [flatC, List.set_cons_zero, flatC, he, Nat.zero_mul, Nat.zero_add, List.set_append_left _ _ (by rw [hq]; exact hk)]
  | p :: l, q + 1, c, c', k, u, h, hk, he => by
    have hq : p.cells.length = 13 := rfl
    have ih := flatC_set l (q := q) (by simpa using h) hk he
    rw [flatC, List.set_cons_succ, flatC, List.set_append_right _ _ (by rw [hq]; omega), hq, ← ih]
    congr 2
    omega
theorem own_emptyC (w : World) : (w.alloc (.cells #[] 43)).ownsRow w.heap.size 43 13 (.slice (some ⟨w.heap.size, 0, none⟩) 0 0) 0 [] :=
  World.ownsRow_made w #[] 0 (Nat.le_refl _) (Nat.zero_le _) rfl
section
variable {P : Program} (w : World)
/-- At a step of a region that draws its order: append of any slice. -/
theorem step_append_sl {ops : Array Oper} {o : Oper} {a : Act} {K : Act → World → Prop} {Q : Exit → Act → World → Prop} {E : Prop} (hgd : o.guard = none) (s x : Operand) (t : TypeId)
    (ho : o.op = .call { callee := .builtin .append, args := #[s, x], argTypes := #[t, t] })
    (base : Nat) (e : TypeId) (i : TypeInfo) (z : Value) (size bytes : Nat) (ht : P.underlying t = some (.slice e)) (hi : P.info? e = some i) (hz : i.zero = some z)
    (hsize : i.size = size) (hby : i.bytes = bytes) (hzs : z.cells.size = size) (hsz : 0 < size)
    (v : Value) (n : Nat) (xs : List Value) (hs : a.eval s = v) (hown : w.ownsRow base e size v n xs)
    (A : Option Addr) (m c : Nat) (news : List Value) (hx : a.eval x = .slice A m c) (hl : news.length = m * size) (hr : Sl w A news) (h1 : ∀ u ∈ news, u.oneCell' = true)
    (h63 : n + m ≤ maxLen) (hbytes : (n + m) * bytes ≤ 140737488355328) (hbase : base ≤ w.heap.size)
    (r : Nat) (hrr : r = n + m)
    (h : ∀ A' c' w', w'.ownsRow base e size (.slice A' r c') r (xs ++ news) → Below base w w' → w.grownBy w' v.ownBlock → ((Value.slice A' r c').ownBlock = v.ownBlock ∨ (Value.slice A' r c').ownBlock = some w.heap.size) → K (a.put o.dst (.slice A' r c')) w') :
    if Region.wanted o (yielded ops a.tmps) = true then Oper.wp P o a w K Q else E := by
  have hw : Region.wanted o (yielded ops a.tmps) = true := by simp [Region.wanted, hgd]
  rw [if_pos hw]
  exact wp_append_sl w s x t ho base e i z size bytes ht hi hz hsize hby hzs hsz v n xs hs hown A m c news hx hl hr h1 h63 hbytes hbase r hrr h
end
end Go.Proofs.YtpdfmfkoopdfgaaGreatDoor
end
section
namespace Go.Proofs.YtpdfmfkoopdfgaaGreatDoor
set_option maxRecDepth 100000
open Go.RowKit Aid Gr Hs LinP HeapP

/-! ### eras of rows -/
/-- How many points at the head share an era. -/
theorem eraLen_is {ps : List Pt} {n : Nat} (hn : n ≤ ps.length) (hall : ∀ (i : Nat) (p : Pt), i < n → ps[i]? = some p → p.era = (ps.headD ptD).era) (hx : ∀ p, ps[n]? = some p → p.era ≠ (ps.headD ptD).era) : eraLen ps = n := by
  unfold eraLen
  by_cases he : n = ps.length
  · have : ps.findIdx? (fun p => p.era != (ps.headD ptD).era) = none := by
      rw [List.findIdx?_eq_none_iff]
      intro p hp
      obtain ⟨j, hj, hp⟩ := List.getElem_of_mem hp
      have := hall j p (by omega) (by rw [List.getElem?_eq_getElem hj, hp])
      simp only [bne_eq_false_iff_eq]; exact this
    rw [this]; exact he.symm
  · have hlt : n < ps.length := by omega
    have : ps.findIdx? (fun p => p.era != (ps.headD ptD).era) = some n := by
      rw [List.findIdx?_eq_some_iff_getElem]
      refine ⟨hlt, ?_, fun j hj => ?_⟩
      · have := hx _ (List.getElem?_eq_getElem hlt)
        simpa using this
      · have := hall j _ hj (List.getElem?_eq_getElem (by omega))
        simp only [bne_iff_ne, ne_eq, Decidable.not_not]
        exact this
    rw [this]
theorem eraLen_in {ps : List Pt} {i : Nat} {p : Pt} (hi : i < eraLen ps) (hp : ps[i]? = some p) : p.era = (ps.headD ptD).era := by
  unfold eraLen at hi
  split at hi
  · rename_i k hk
    obtain ⟨hk1, hk2, hk3⟩ := List.findIdx?_eq_some_iff_getElem.1 hk
    have := hk3 i hi
    have e : ps[i]'(by omega) = p := by
      rw [List.getElem?_eq_getElem (by omega)] at hp
      exact Option.some.inj hp
    rw [e] at this
    simpa using this
  · rename_i hk
    rw [List.findIdx?_eq_none_iff] at hk
    have := hk p (List.mem_of_getElem? hp)
    simpa using this
theorem eraLen_out {ps : List Pt} {p : Pt} (hp : ps[eraLen ps]? = some p) : p.era ≠ (ps.headD ptD).era := by
  have : ∀ n, n = eraLen ps → ps[n]? = some p → p.era ≠ (ps.headD ptD).era := by
    intro n hn hp
    unfold eraLen at hn
    split at hn
    · rename_i k hk
      obtain ⟨hk1, hk2, hk3⟩ := List.findIdx?_eq_some_iff_getElem.1 hk
      subst hn
      rw [List.getElem?_eq_getElem hk1] at hp
      cases hp
      simpa using hk2
    · subst hn
      rw [List.getElem?_eq_none (Nat.le_refl _)] at hp; cases hp
  exact this _ rfl hp
/-! ### a row that goes on behind, in later eras -/
theorem eraLen_behind {ps qs : List Pt} (hps : ps ≠ []) (h : ∀ p ∈ ps, ∀ q ∈ qs, p.era < q.era) : eraLen (ps ++ qs) = eraLen ps := by
  have hh : (ps ++ qs).headD ptD = ps.headD ptD := by
    cases ps with
    | nil => exact absurd rfl hps
    | cons a l => rfl
  have hm : ps.headD ptD ∈ ps := by
    cases ps with
    | nil => exact absurd rfl hps
    | cons a l => exact List.mem_cons_self ..
  have hle := eraLen_le ps
  refine eraLen_is (by rw [List.length_append]; omega) (fun i p hi hp => ?_) (fun p hp => ?_)
  · rw [hh]
    rw [List.getElem?_append_left (by omega)] at hp
    exact eraLen_in hi hp
  · rw [hh]
    rcases Nat.lt_or_ge (eraLen ps) ps.length with hlt | hge
    · rw [List.getElem?_append_left hlt] at hp
      exact eraLen_out hp
    · rw [List.getElem?_append_right hge] at hp
      have := h _ hm _ (List.mem_of_getElem? hp)
      omega
theorem chain_behind : ∀ (n : Nat) {ps qs : List Pt}, ps.length ≤ n → (∀ p ∈ ps, ∀ q ∈ qs, p.era < q.era) → ∀ {g g' : List Arc}, Chain (ps ++ qs) g g' ↔ ∃ m, Chain ps g m ∧ Chain qs m g'
  | n, [], qs, _, _, g, g' => by
    constructor
    · exact fun h => ⟨g, .done g, h⟩
    · rintro ⟨m, h1, h2⟩
      cases h1 with
      | done => exact h2
      | era h => exact absurd rfl h
  | 0, p :: ps, _, h, _, _, _ => by simp at h
  | n + 1, p0 :: ps0, qs, hn, h, g, g' => by
    have hps : p0 :: ps0 ≠ [] := by simp
    generalize p0 :: ps0 = ps at *
    have he := eraLen_behind hps h
    have hle := eraLen_le ps
    have hpos := eraLen_pos hps
    have ht : (ps ++ qs).take (eraLen (ps ++ qs)) = ps.take (eraLen ps) := by rw [he, List.take_append_of_le_length hle]
    have hd : (ps ++ qs).drop (eraLen (ps ++ qs)) = ps.drop (eraLen ps) ++ qs := by rw [he, List.drop_append_of_le_length hle]
    have ih := fun m => chain_behind n (ps := ps.drop (eraLen ps)) (qs := qs) (by rw [List.length_drop]; omega) (fun p hp q hq => h p (List.mem_of_mem_drop hp) q hq) (g := m) (g' := g')
    constructor
    · intro hc
      generalize hX : ps ++ qs = X at hc ht hd
      cases hc with
      | done => exact absurd (List.append_eq_nil_iff.1 hX).1 hps
      | @era _ _ m _ _ ho hr =>
        rw [ht] at ho
        rw [hd] at hr
        obtain ⟨x, h1, h2⟩ := (ih m).1 hr
        exact ⟨x, .era hps ho h1, h2⟩
    · rintro ⟨x, h1, h2⟩
      cases h1 with
      | done => exact absurd rfl hps
      | @era _ _ m _ _ ho hr =>
        refine .era (m := m) (by simp [hps]) (by rw [ht]; exact ho) ?_
        rw [hd]
        exact (ih m).2 ⟨x, hr, h2⟩
/-! ### a later answer -/
/-- A point, and the same one answered later. -/
def Later (p q : Pt) : Prop := q = ⟨p.k, p.u, p.v, p.x, p.err, p.is, p.n, p.w, p.any, p.fr, q.to, p.era, p.must⟩ ∧ (p.must = true → 0 ≤ p.to ∧ p.to ≤ q.to)
theorem Later.refl {p : Pt} (h : p.must = true → 0 ≤ p.to) : Later p p := ⟨rfl, fun hm => ⟨h hm, Int.le_refl _⟩⟩
theorem ptD_later : Later ptD ptD := ⟨rfl, fun h => by cases h⟩
structure Laters (ps qs : List Pt) : Prop where
  len : ps.length = qs.length
  at' : ∀ i, Later (ptAt ps i) (ptAt qs i)
theorem ptAt_take {ps : List Pt} {n i : Nat} : ptAt (ps.take n) i = if i < n then ptAt ps i else ptD := by
  unfold ptAt
  rw [List.getD_eq_getElem?_getD, List.getElem?_take]
  split
  · rw [List.getD_eq_getElem?_getD]
  · rfl
theorem ptAt_drop {ps : List Pt} {n i : Nat} : ptAt (ps.drop n) i = ptAt ps (n + i) := by
  unfold ptAt
  rw [List.getD_eq_getElem?_getD, List.getElem?_drop, List.getD_eq_getElem?_getD]
theorem Laters.take {ps qs : List Pt} (h : Laters ps qs) (n : Nat) : Laters (ps.take n) (qs.take n) := ⟨by rw [List.length_take, List.length_take, h.len], fun i => by
  rw [ptAt_take, ptAt_take]
  split
  · exact h.at' i
  · exact ptD_later⟩
theorem Laters.drop {ps qs : List Pt} (h : Laters ps qs) (n : Nat) : Laters (ps.drop n) (qs.drop n) := ⟨by rw [List.length_drop, List.length_drop, h.len], fun i => by rw [ptAt_drop, ptAt_drop]; exact h.at' _⟩
theorem Later.era {p q : Pt} (h : Later p q) : q.era = p.era := by rw [h.1]
theorem headD_ptAt (ps : List Pt) : ps.headD ptD = ptAt ps 0 := by cases ps <;> rfl
theorem Laters.eraLen {ps qs : List Pt} (h : Laters ps qs) : eraLen qs = eraLen ps := by
  by_cases hps : ps = []
  · subst hps
    have : qs = [] := List.eq_nil_of_length_eq_zero (by have := h.len; simpa using this.symm)
    subst this; rfl
  · have hle := eraLen_le ps
    have hl := h.len
    have gt : ∀ i p, qs[i]? = some p → p = ptAt qs i ∧ i < ps.length := fun i p hp => by
      have hi := (List.getElem?_eq_some_iff.1 hp).1
      rw [ptAt_some hi] at hp
      exact ⟨(Option.some.inj hp).symm, by omega⟩
    have hhd : (qs.headD ptD).era = (ps.headD ptD).era := by rw [headD_ptAt, headD_ptAt, (h.at' 0).era]
    refine eraLen_is (by omega) (fun i p hi hp => ?_) (fun p hp => ?_)
    · obtain ⟨rfl, hi2⟩ := gt i p hp
      rw [(h.at' i).era, hhd]
      exact eraLen_in hi (ptAt_some hi2)
    · obtain ⟨rfl, hi2⟩ := gt _ p hp
      rw [(h.at' _).era, hhd]
      exact eraLen_out (ptAt_some hi2)
theorem Later.fit {p q : Pt} (h : Later p q) (a : Ans) : fitP q a = fitP p a := by rw [h.1]; rfl
theorem later_steps {ps qs : List Pt} (h : Laters ps qs) {g g' : List Arc} {d d' : List Bool} (hs : LinP.Steps (sysOf ps) g d g' d') : LinP.Steps (sysOf qs) g d g' d' := by
  induction hs with
  | refl => exact .refl _ _
  | @step g d g' d' i h1 h2 h3 h4 _ ih =>
    have hn : (sysOf qs).n = (sysOf ps).n := h.len.symm
    have hnx : (sysOf qs).nx i g = (sysOf ps).nx i g := by
      show doG g (opOf (ptAt qs i)) = doG g (opOf (ptAt ps i))
      rw [(h.at' i).1]; rfl
    refine .step i (by rw [hn]; exact h1) h2 (fun k hk hd hm hki h0 hlt => ?_) ?_ (by rw [hnx]; exact ih)
    · have hl := h.at' k
      have hmk : (ptAt ps k).must = true := by
        have : (ptAt qs k).must = true := hm
        rw [hl.1] at this; exact this
      have h5 := hl.2 hmk
      have h6 : (ptAt qs i).fr = (ptAt ps i).fr := by rw [(h.at' i).1]
      have h7 : (ptAt qs k).to < (ptAt qs i).fr := hlt
      refine h3 k (by rw [← hn]; exact hk) hd hmk hki h5.1 ?_
      show (ptAt ps k).to < (ptAt ps i).fr
      omega
    · rw [fit_sys, (h.at' i).fit, show opOf (ptAt qs i) = opOf (ptAt ps i) by rw [(h.at' i).1]; rfl]
      exact h4
theorem later_ord {ps qs : List Pt} (h : Laters ps qs) {g g' : List Arc} (ho : LinP.Ord (sysOf ps) g g') : LinP.Ord (sysOf qs) g g' := by
  obtain ⟨d, hs, hf⟩ := ho
  have hz : zeros (sysOf qs) = zeros (sysOf ps) := by
    unfold zeros
    rw [show (sysOf qs).n = (sysOf ps).n from h.len.symm]
  refine ⟨d, by rw [hz]; exact later_steps h hs, fun i hi hm => hf i ?_ ?_⟩
  · have : i < qs.length := hi
    show i < ps.length
    rw [h.len]; exact this
  · have : (ptAt qs i).must = true := hm
    rw [(h.at' i).1] at this
    exact this
theorem later_chain {ps : List Pt} {g g' : List Arc} (hc : Chain ps g g') : ∀ {qs : List Pt}, Laters ps qs → Chain qs g g' := by
  induction hc with
  | done g =>
    intro qs h
    have : qs = [] := List.eq_nil_of_length_eq_zero (by have := h.len; simpa using this.symm)
    subst this
    exact .done g
  | @era ps g m g' hps ho _ ih =>
    intro qs h
    have hq : qs ≠ [] := fun e => by
      subst e
      exact hps (List.eq_nil_of_length_eq_zero (by have := h.len; simpa using this))
    refine .era (m := m) hq ?_ ?_
    · rw [h.eraLen]; exact later_ord (h.take _) ho
    · rw [h.eraLen]; exact ih (h.drop _)
/-! ### one more open call at the end -/
theorem ptAt_app {ps : List Pt} {q : Pt} {i : Nat} (h : i < ps.length) : ptAt (ps ++ [q]) i = ptAt ps i := by
  unfold ptAt
  rw [List.getD_eq_getElem?_getD, List.getElem?_append_left h, List.getD_eq_getElem?_getD]
theorem ptAt_app_last {ps : List Pt} {q : Pt} : ptAt (ps ++ [q]) ps.length = q := by
  unfold ptAt
  rw [List.getD_eq_getElem?_getD, List.getElem?_append_right (Nat.le_refl _)]
  simp
theorem isD_app {d : List Bool} {b : Bool} {i : Nat} (h : i < d.length) : isD (d ++ [b]) i = isD d i := by
  unfold isD
  rw [List.getD_eq_getElem?_getD, List.getElem?_append_left h, List.getD_eq_getElem?_getD]
theorem more_steps {ps : List Pt} {q : Pt} (hq : q.must = false) {g g' : List Arc} {d d' : List Bool} (hs : LinP.Steps (sysOf ps) g d g' d') (hl : d.length = ps.length) : LinP.Steps (sysOf (ps ++ [q])) g (d ++ [false]) g' (d' ++ [false]) := by
  induction hs with
  | refl => exact .refl _ _
  | @step g d g' d' i h1 h2 h3 h4 _ ih =>
    have hi : i < ps.length := h1
    have hp := ptAt_app (q := q) hi
    have hnx : (sysOf (ps ++ [q])).nx i g = (sysOf ps).nx i g := by
      show doG g (opOf (ptAt (ps ++ [q]) i)) = doG g (opOf (ptAt ps i))
      rw [hp]
    refine .step i (by show i < (ps ++ [q]).length; rw [List.length_append]; omega) (by rw [isD_app (by omega)]; exact h2) (fun k hk hd hm hki h0 hlt => ?_) ?_ ?_
    · have hk2 : k < (ps ++ [q]).length := hk
      rw [List.length_append, List.length_singleton] at hk2
      rcases Nat.lt_or_ge k ps.length with hkl | hkl
      · have e := ptAt_app (q := q) hkl
        rw [isD_app (by omega)] at hd
        refine h3 k hkl hd ?_ hki ?_ ?_
        · show (ptAt ps k).must = true
          rw [← e]; exact hm
        · show 0 ≤ (ptAt ps k).to
          rw [← e]; exact h0
        · show (ptAt ps k).to < (ptAt ps i).fr
          rw [← e, ← hp]; exact hlt
      · obtain rfl : k = ps.length := by omega
        have : (ptAt (ps ++ [q]) ps.length).must = true := hm
        rw [ptAt_app_last, hq] at this
        cases this
    · rw [fit_sys, hp]; exact h4
    · rw [hnx, show (d ++ [false]).set i true = d.set i true ++ [false] from List.set_append_left _ _ (by omega)]
      exact ih (by rw [List.length_set]; exact hl)
theorem more_ord {ps : List Pt} {q : Pt} (hq : q.must = false) {g g' : List Arc} (ho : LinP.Ord (sysOf ps) g g') : LinP.Ord (sysOf (ps ++ [q])) g g' := by
  obtain ⟨d, hs, hf⟩ := ho
  have hz : zeros (sysOf (ps ++ [q])) = zeros (sysOf ps) ++ [false] := by
    have e1 : zeros (sysOf (ps ++ [q])) = List.replicate (ps ++ [q]).length false := rfl
    have e2 : zeros (sysOf ps) = List.replicate ps.length false := rfl
    rw [e1, e2, List.length_append, List.length_singleton, List.replicate_succ']
  have hl : (zeros (sysOf ps)).length = ps.length := List.length_replicate ..
  refine ⟨d ++ [false], by rw [hz]; exact more_steps hq hs hl, fun i hi hm => ?_⟩
  have hdl : d.length = ps.length := hs.length.trans hl
  have hk2 : i < (ps ++ [q]).length := hi
  rw [List.length_append, List.length_singleton] at hk2
  have hm2 : (ptAt (ps ++ [q]) i).must = true := hm
  rcases Nat.lt_or_ge i ps.length with hkl | hkl
  · rw [isD_app (by omega)]
    refine hf i hkl ?_
    show (ptAt ps i).must = true
    rw [← ptAt_app (q := q) hkl]; exact hm2
  · obtain rfl : i = ps.length := by omega
    rw [ptAt_app_last, hq] at hm2
    cases hm2
theorem one_open {q : Pt} (hq : q.must = false) (g : List Arc) : Chain [q] g g := by
  have h1 : eraLen [q] = 1 := eraLen_is (n := 1) (by simp) (fun i p hi hp => by
    obtain rfl : i = 0 := by omega
    simp at hp; subst hp; rfl) (fun p hp => by simp at hp)
  refine .era (m := g) (by simp) ?_ ?_
  · rw [h1]
    exact more_ord (ps := []) hq ⟨[], .refl _ _, fun i hi _ => by
      have : i < 0 := hi
      omega⟩
  · rw [h1]; exact .done g
theorem chain_open {ps : List Pt} {g g' : List Arc} (hc : Chain ps g g') : ∀ {q : Pt}, q.must = false → Chain (ps ++ [q]) g g' := by
  induction hc with
  | done g => intro q hq; exact one_open hq g
  | @era ps g m g' hps ho hr ih =>
    intro q hq
    have hle := eraLen_le ps
    have hh : (ps ++ [q]).headD ptD = ps.headD ptD := by
      cases ps with
      | nil => exact absurd rfl hps
      | cons a l => rfl
    by_cases hcase : eraLen ps = ps.length ∧ q.era = (ps.headD ptD).era
    · have he : eraLen (ps ++ [q]) = ps.length + 1 := eraLen_is (by simp) (fun i p hi hp => by
        rw [hh]
        rcases Nat.lt_or_ge i ps.length with h | h
        · rw [List.getElem?_append_left h] at hp
          exact eraLen_in (by omega) hp
        · rw [List.getElem?_append_right h] at hp
          have hz : i - ps.length = 0 := by omega
          rw [hz] at hp; simp at hp; subst hp; exact hcase.2) (fun p hp => by simp at hp)
      rw [hcase.1, List.take_length] at ho
      have hr2 := hr
      rw [hcase.1, List.drop_length] at hr2
      refine .era (m := m) (by simp) ?_ ?_
      · rw [he, show ps.length + 1 = (ps ++ [q]).length by simp, List.take_length]
        exact more_ord hq ho
      · rw [he, show ps.length + 1 = (ps ++ [q]).length by simp, List.drop_length]
        exact hr2
    · have he : eraLen (ps ++ [q]) = eraLen ps := eraLen_is (by simp; omega) (fun i p hi hp => by
        rw [hh]
        rw [List.getElem?_append_left (by omega)] at hp
        exact eraLen_in hi hp) (fun p hp => by
        rw [hh]
        rcases Nat.lt_or_ge (eraLen ps) ps.length with h | h
        · rw [List.getElem?_append_left h] at hp
          exact eraLen_out hp
        · have hee : eraLen ps = ps.length := by omega
          rw [List.getElem?_append_right h, hee] at hp
          simp at hp; subst hp
          exact fun e => hcase ⟨hee, e⟩)
      refine .era (m := m) (by simp) ?_ ?_
      · rw [he, List.take_append_of_le_length hle]; exact ho
      · rw [he, List.drop_append_of_le_length hle]; exact ih hq
end Go.Proofs.YtpdfmfkoopdfgaaGreatDoor
end
