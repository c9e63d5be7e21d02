/- P1, PTwo, PReach. -/
set_option linter.unusedVariables false
set_option linter.unusedSimpArgs false
section
namespace Go.Proofs.YtpdfmfkoopdfgaaGreatDoor.LinP

/-- One era's points: how many; which turn something; which must be; when; what each asks of a graph, and what it makes of it. -/
structure Sys (G : Type) where
  n : Nat
  turn : Nat → Bool
  must : Nat → Bool
  fr : Nat → Int
  to : Nat → Int
  ok : Nat → G → Bool
  nx : Nat → G → G

def isD (d : List Bool) (i : Nat) : Bool := d.getD i false
theorem isD_set {d : List Bool} {i j : Nat} (h : i < d.length) (b : Bool) : isD (d.set i b) j = if i = j then b else isD d j := by
  unfold isD
  rw [List.getD_eq_getElem?_getD, List.getD_eq_getElem?_getD, List.getElem?_set]
  split
  · subst_vars; simp_all
  · rfl
theorem isD_none (n j : Nat) : isD (List.replicate n false) j = false := by
  unfold isD
  rw [List.getD_eq_getElem?_getD, List.getElem?_replicate]
  split <;> rfl
theorem isD_lt {d : List Bool} {i : Nat} (h : isD d i = true) : i < d.length := by
  unfold isD at h
  rw [List.getD_eq_getElem?_getD] at h
  cases hd : d[i]? with
  | none => rw [hd] at h; cases h
  | some b => exact (List.getElem?_eq_some_iff.1 hd).1
theorem isD_ext {d e : List Bool} (hl : d.length = e.length) (h : ∀ i, isD d i = isD e i) : d = e := by
  apply List.ext_getElem hl
  intro i h1 h2
  have := h i
  unfold isD at this
  simpa [List.getD_eq_getElem?_getD, List.getElem?_eq_getElem h1, List.getElem?_eq_getElem h2] using this

variable {G : Type} (S : Sys G)

/-- What is so of one era's points of a history that is right. -/
structure Sys.Good : Prop where
  still : ∀ i g, i < S.n → S.turn i = false → S.nx i g = g
  asked : ∀ i, i < S.n → S.turn i = false → S.must i = true
  low : ∀ i, i < S.n → S.must i = true → 0 ≤ S.to i
  span : ∀ i, i < S.n → S.must i = true → S.fr i ≤ S.to i

def Sys.fit (i : Nat) (g : G) : Bool := !S.must i || S.ok i g

/-- May a point stand next? -/
def Ready (d : List Bool) (i : Nat) : Prop := ∀ k, k < S.n → isD d k = false → S.must k = true → k ≠ i → 0 ≤ S.to k → S.to k < S.fr i → False

inductive Steps : G → List Bool → G → List Bool → Prop
  | refl (g : G) (d : List Bool) : Steps g d g d
  | step {g : G} {d : List Bool} {g' : G} {d' : List Bool} (i : Nat) : i < S.n → isD d i = false → Ready S d i → S.fit i g = true → Steps (S.nx i g) (d.set i true) g' d' → Steps g d g' d'
inductive LSteps (L : List Nat) : G → List Bool → G → List Bool → Prop
  | refl (g : G) (d : List Bool) : LSteps L g d g d
  | step {g : G} {d : List Bool} {g' : G} {d' : List Bool} (i : Nat) : i ∈ L → isD d i = false → S.fit i g = true → LSteps L (S.nx i g) (d.set i true) g' d' → LSteps L g d g' d'

def Full (d : List Bool) : Prop := ∀ i, i < S.n → S.must i = true → isD d i = true
def zeros : List Bool := List.replicate S.n false
/-- P21.1: an order leads from a graph to another one. -/
def Ord (g g' : G) : Prop := ∃ d, Steps S g (zeros S) g' d ∧ Full S d

variable {S}
theorem Steps.trans {g d g1 d1 g2 d2} (h : Steps S g d g1 d1) (k : Steps S g1 d1 g2 d2) : Steps S g d g2 d2 := by
  induction h with
  | refl => exact k
  | step i h1 h2 h3 h4 _ ih => exact .step i h1 h2 h3 h4 (ih k)
theorem Steps.length {g d g1 d1} (h : Steps S g d g1 d1) : d1.length = d.length := by
  induction h with
  | refl => rfl
  | step i _ _ _ _ _ ih => rw [ih, List.length_set]
theorem Steps.keeps {g d g1 d1} (h : Steps S g d g1 d1) (hl : d.length = S.n) {k : Nat} (hk : isD d k = true) : isD d1 k = true := by
  induction h with
  | refl => exact hk
  | step i h1 _ _ _ _ ih =>
    refine ih (by rw [List.length_set]; exact hl) ?_
    rw [isD_set (by omega)]
    split
    · rfl
    · exact hk

/-- More questions are told. -/
structure Ext (S : Sys G) (d e : List Bool) : Prop where
  len : e.length = d.length
  more : ∀ i, isD d i = true → isD e i = true
  ask : ∀ i, isD e i = true → isD d i = false → S.turn i = false
theorem Ext.refl (d : List Bool) : Ext S d d := ⟨rfl, fun _ h => h, fun i h k => by rw [h] at k; cases k⟩
theorem Ext.trans {d e f : List Bool} (h : Ext S d e) (k : Ext S e f) : Ext S d f :=
  ⟨k.len.trans h.len, fun i q => k.more i (h.more i q), fun i q r => by
    cases he : isD e i
    · exact k.ask i q he
    · exact h.ask i he r⟩
theorem Ext.both {d e : List Bool} (h : Ext S d e) {i : Nat} (hi : i < d.length) : Ext S (d.set i true) (e.set i true) := by
  refine ⟨by rw [List.length_set, List.length_set]; exact h.len, fun j q => ?_, fun j q r => ?_⟩
  · rw [isD_set hi] at q
    rw [isD_set (by rw [h.len]; exact hi)]
    split
    · rfl
    · next hij => rw [if_neg hij] at q; exact h.more j q
  · rw [isD_set hi] at r
    rw [isD_set (by rw [h.len]; exact hi)] at q
    by_cases hij : i = j
    · rw [if_pos hij] at r; cases r
    · rw [if_neg hij] at q r; exact h.ask j q r
theorem Ext.left {d e : List Bool} (h : Ext S d e) {i : Nat} (hi : i < d.length) (he : isD e i = true) : Ext S (d.set i true) e := by
  refine ⟨by rw [List.length_set]; exact h.len, fun j q => ?_, fun j q r => ?_⟩
  · rw [isD_set hi] at q
    by_cases hij : i = j
    · subst hij; exact he
    · rw [if_neg hij] at q; exact h.more j q
  · rw [isD_set hi] at r
    by_cases hij : i = j
    · rw [if_pos hij] at r; cases r
    · rw [if_neg hij] at r; exact h.ask j q r
theorem Ready.mono {d e : List Bool} (h : ∀ i, isD d i = true → isD e i = true) {i : Nat} (hr : Ready S d i) : Ready S e i := fun k hk hd => hr k hk (by
  cases hq : isD d k
  · rfl
  · rw [h k hq] at hd; cases hd)
theorem Full.mono {d e : List Bool} (h : ∀ i, isD d i = true → isD e i = true) (hf : Full S d) : Full S e := fun i hi hm => h i (hf i hi hm)

/-- Told questions may stand ahead. -/
theorem Steps.ahead (hS : S.Good) {g d g' d'} (h : Steps S g d g' d') (hl : d.length = S.n) : ∀ {e}, Ext S d e → ∃ e', Steps S g e g' e' ∧ Ext S d' e' := by
  induction h with
  | refl g d => intro e he; exact ⟨e, .refl g e, he⟩
  | @step g d g' d' i h1 h2 h3 h4 _ ih =>
    intro e he
    have hl' : (d.set i true).length = S.n := by rw [List.length_set]; exact hl
    cases hi : isD e i
    · obtain ⟨e', k1, k2⟩ := ih hl' (he.both (i := i) (by omega))
      exact ⟨e', .step i h1 hi (h3.mono he.more) h4 k1, k2⟩
    · have hq := he.ask i hi h2
      rw [hS.still i g h1 hq] at ih
      exact ih hl' (he.left (by omega) hi)

/-! ### reading -/
variable (S) in
def rd1 (g : G) (d : List Bool) (i : Nat) : List Bool := if S.turn i || isD d i then d else d.set i (S.fit i g)
variable (S) in
def rd (L : List Nat) (g : G) (d : List Bool) : List Bool := L.foldl (rd1 S g) d
theorem rd1_len (g : G) (d : List Bool) (i : Nat) : (rd1 S g d i).length = d.length := by
  unfold rd1; split
  · rfl
  · rw [List.length_set]
theorem rd_len (L : List Nat) (g : G) (d : List Bool) : (rd S L g d).length = d.length := by
  unfold rd
  induction L generalizing d with
  | nil => rfl
  | cons i L ih => rw [List.foldl_cons, ih, rd1_len]
theorem isD_rd1 {g : G} {d : List Bool} {i : Nat} (hi : i < d.length) (j : Nat) : isD (rd1 S g d i) j = (isD d j || (decide (j = i) && !S.turn j && S.fit j g)) := by
  unfold rd1
  cases ht : S.turn i
  · cases hd : isD d i
    · simp only [Bool.or_self, Bool.false_eq_true, if_false]
      rw [isD_set hi]
      by_cases hij : i = j
      · subst hij; simp [hd, ht]
      · rw [if_neg hij, decide_eq_false (fun h => hij (Eq.symm h))]; simp
    · simp only [Bool.or_true, if_true]
      by_cases hij : j = i
      · subst hij; simp [hd]
      · simp [hij]
  · simp only [Bool.true_or, if_true]
    by_cases hij : j = i
    · subst hij; simp [ht]
    · simp [hij]
theorem isD_rd {g : G} {L : List Nat} {d : List Bool} (hL : ∀ i ∈ L, i < d.length) (j : Nat) : isD (rd S L g d) j = (isD d j || (L.contains j && !S.turn j && S.fit j g)) := by
  induction L generalizing d with
  | nil => unfold rd; simp
  | cons i L ih =>
    have h1 : rd S (i :: L) g d = rd S L g (rd1 S g d i) := rfl
    rw [h1, ih (fun k hk => by rw [rd1_len]; exact hL k (List.mem_cons_of_mem _ hk)), isD_rd1 (hL i (List.mem_cons_self ..)), List.contains_cons]
    have e : (j == i) = decide (j = i) := by by_cases h : j = i <;> simp [h]
    rw [e]
    cases isD d j <;> cases decide (j = i) <;> cases L.contains j <;> cases S.turn j <;> cases S.fit j g <;> rfl
theorem rd_ext {g : G} {L : List Nat} {d : List Bool} (hL : ∀ i ∈ L, i < d.length) : Ext S d (rd S L g d) := by
  refine ⟨rd_len _ _ _, fun i h => ?_, fun i h k => ?_⟩
  · rw [isD_rd hL, h]; rfl
  · rw [isD_rd hL, k] at h
    cases ht : S.turn i
    · rfl
    · rw [ht] at h; simp at h
/-- Reading again tells nothing more. -/
def Told (S : Sys G) (L : List Nat) (g : G) (d : List Bool) : Prop := ∀ i ∈ L, S.turn i = false → S.fit i g = true → isD d i = true
theorem told_rd {g : G} {L : List Nat} {d : List Bool} (hL : ∀ i ∈ L, i < d.length) : Told S L g (rd S L g d) := fun i hi ht hf => by
  rw [isD_rd hL, ht, hf]
  have : L.contains i = true := by simpa using hi
  rw [this]; simp

/-! ### grown -/
abbrev St (G : Type) := G × List Bool
variable (S) in
inductive LPath (L : List Nat) (t : St G) : St G → Prop
  | start : LPath L t (t.1, rd S L t.1 t.2)
  | next {s : St G} (i : Nat) : LPath L t s → i ∈ L → isD s.2 i = false → S.turn i = true → S.fit i s.1 = true → LPath L t (S.nx i s.1, rd S L (S.nx i s.1) (s.2.set i true))
variable (S) in
structure Grown (L : List Nat) (from' out : List (St G)) : Prop where
  base : ∀ s ∈ from', (s.1, rd S L s.1 s.2) ∈ out
  closed : ∀ s ∈ out, ∀ i ∈ L, isD s.2 i = false → S.turn i = true → S.fit i s.1 = true → (S.nx i s.1, rd S L (S.nx i s.1) (s.2.set i true)) ∈ out
  reach : ∀ s ∈ out, ∃ t ∈ from', LPath S L t s
  nodup : out.Nodup
theorem LPath.len {L : List Nat} {t s : St G} (h : LPath S L t s) : s.2.length = t.2.length := by
  induction h with
  | start => exact rd_len _ _ _
  | next i _ _ _ _ _ ih => simp only [rd_len, List.length_set]; exact ih
theorem LPath.told {L : List Nat} {t s : St G} (hL : ∀ i ∈ L, i < t.2.length) (h : LPath S L t s) : Told S L s.1 s.2 := by
  cases h with
  | start => exact told_rd hL
  | next i h1 _ _ _ _ => exact told_rd (by rw [List.length_set, h1.len]; exact hL)
theorem LPath.keeps {L : List Nat} {t s : St G} (hL : ∀ i ∈ L, i < t.2.length) (h : LPath S L t s) {k : Nat} (hk : isD t.2 k = true) : isD s.2 k = true := by
  induction h with
  | start => exact (rd_ext hL).more k hk
  | @next s i h1 h2 _ _ _ ih =>
    have hl : i < s.2.length := by rw [h1.len]; exact hL i h2
    refine (rd_ext (by rw [List.length_set, h1.len]; exact hL)).more k ?_
    rw [isD_set hl]
    split
    · rfl
    · exact ih
/-- Whatever steps of live points lead to is in what is grown, with questions told. -/
theorem Grown.has (hS : S.Good) {L : List Nat} (hL : ∀ i ∈ L, i < S.n) {from' out : List (St G)} (hg : Grown S L from' out) (hf : ∀ s ∈ from', s.2.length = S.n) {g d g1 d1} (h : LSteps S L g d g1 d1) (hl : d.length = S.n) : ∀ {e}, (g, e) ∈ out → Ext S d e → ∃ e1, (g1, e1) ∈ out ∧ Ext S d1 e1 := by
  induction h with
  | refl g d => intro e h1 h2; exact ⟨e, h1, h2⟩
  | @step g d g' d' i h1 h2 h3 _ ih =>
    intro e he hx
    have hi : i < S.n := hL i h1
    have hl' : (d.set i true).length = S.n := by rw [List.length_set]; exact hl
    have hel : e.length = S.n := hx.len.trans hl
    cases hd : isD e i
    · cases ht : S.turn i
      · obtain ⟨t, ht1, ht2⟩ := hg.reach _ he
        have := ht2.told (by rw [hf t ht1]; exact hL) i h1 ht h3
        rw [hd] at this; cases this
      · have hm := hg.closed _ he i h1 hd ht h3
        exact ih hl' hm ((hx.both (by omega)).trans (rd_ext (by rw [List.length_set, hel]; exact hL)))
    · have hq := hx.ask i hd h2
      rw [hS.still i g hi hq] at ih
      exact ih hl' he (hx.left (by omega) hd)

/-! ### events -/
abbrev Ev := Nat × Bool
variable (S) in
def Sys.at (e : Ev) : Int := if e.2 then S.to e.1 else S.fr e.1
/-- Events in time; what begins ahead of what ends. -/
def evLess (S : Sys G) (a b : Ev) : Prop := S.at a < S.at b ∨ (S.at a = S.at b ∧ a.2 = false ∧ b.2 = true)
variable (S) in
def moments : List Ev := (List.range S.n).flatMap fun i => (i, false) :: (if S.must i then [(i, true)] else [])
theorem mem_moments {e : Ev} : e ∈ moments S ↔ e.1 < S.n ∧ (e.2 = true → S.must e.1 = true) := by
  unfold moments
  rw [List.mem_flatMap]
  constructor
  · rintro ⟨i, hi, he⟩
    rw [List.mem_range] at hi
    rcases List.mem_cons.1 he with rfl | he
    · exact ⟨hi, fun q => by cases q⟩
    · split at he
      · rw [List.mem_singleton] at he
        subst he
        exact ⟨hi, fun _ => by assumption⟩
      · cases he
  · rintro ⟨h1, h2⟩
    refine ⟨e.1, List.mem_range.2 h1, ?_⟩
    obtain ⟨i, b⟩ := e
    cases b
    · exact List.mem_cons_self ..
    · refine List.mem_cons_of_mem _ ?_
      rw [if_pos (h2 rfl)]
      exact List.mem_singleton.2 rfl
variable (S) in
inductive Run : List Ev → List Nat → List (St G) → List (St G) → Prop
  | fin {L from' out} : Grown S L from' out → Run [] L from' out
  | beg {ev L from' out} (i : Nat) : Run ev (L ++ [i]) from' out → Run ((i, false) :: ev) L from' out
  | stop {ev L from' mid out} (i : Nat) : Grown S L from' mid → Run ev (L.filter fun j => decide (j ≠ i)) (mid.filter fun s => isD s.2 i) out → Run ((i, true) :: ev) L from' out
variable (S) in
def Era (from' out : List (St G)) : Prop := ∃ ev : List Ev, ev.Perm (moments S) ∧ ev.Pairwise (fun a b => ¬ evLess S b a) ∧ Run S ev [] from' out

/-- The live points behind some events. -/
def LiveOf (pre : List Ev) (L : List Nat) : Prop := ∀ i, i ∈ L ↔ (i, false) ∈ pre ∧ (i, true) ∉ pre
variable (S) in
structure Cut (pre ev : List Ev) : Prop where
  perm : (pre ++ ev).Perm (moments S)
  sorted : (pre ++ ev).Pairwise (fun a b => ¬ evLess S b a)
theorem Cut.mem {pre ev : List Ev} (h : Cut S pre ev) {e : Ev} (he : e ∈ pre) : e ∈ moments S := h.perm.mem_iff.1 (List.mem_append_left _ he)
theorem Cut.mem' {pre ev : List Ev} (h : Cut S pre ev) {e : Ev} (he : e ∈ moments S) : e ∈ pre ∨ e ∈ ev := List.mem_append.1 (h.perm.mem_iff.2 he)
theorem Cut.ahead {pre ev : List Ev} (h : Cut S pre ev) {a b : Ev} (ha : a ∈ pre) (hb : b ∈ ev) : ¬ evLess S b a := (List.pairwise_append.1 h.sorted).2.2 a ha b hb
theorem Cut.push {pre ev : List Ev} {e : Ev} (h : Cut S pre (e :: ev)) : Cut S (pre ++ [e]) ev := ⟨by simpa using h.perm, by simpa using h.sorted⟩

/-- A live point may stand next, where all that have ended are done. -/
theorem live_ready {pre ev : List Ev} (hc : Cut S pre ev) {L : List Nat} (hL : LiveOf pre L) {d : List Bool} (hE : ∀ k, (k, true) ∈ pre → isD d k = true) {i : Nat} (hi : i ∈ L) : Ready S d i := fun k hk hd hm _ _ hlt => by
  have hb := ((hL i).1 hi).1
  rcases hc.mem' (mem_moments.2 ⟨hk, fun _ => hm⟩ : ((k, true) : Ev) ∈ moments S) with q | q
  · rw [hE k q] at hd; cases hd
  · exact hc.ahead hb q (.inl hlt)
theorem live_lt {pre ev : List Ev} (hc : Cut S pre ev) {L : List Nat} (hL : LiveOf pre L) : ∀ i ∈ L, i < S.n := fun i hi => (mem_moments.1 (hc.mem ((hL i).1 hi).1)).1
/-- Reading is steps. -/
theorem rd_steps {pre ev : List Ev} (hc : Cut S pre ev) {L : List Nat} (hL : LiveOf pre L) (hS : S.Good) {g : G} {d : List Bool} (hl : d.length = S.n) (hE : ∀ k, (k, true) ∈ pre → isD d k = true) : ∀ (M : List Nat), (∀ i ∈ M, i ∈ L) → Steps S g d g (rd S M g d) := by
  intro M
  induction M generalizing d with
  | nil => intro _; exact .refl g d
  | cons i M ih =>
    intro hM
    have hi := hM i (List.mem_cons_self ..)
    have hlt := live_lt hc hL i hi
    have h1 : rd S (i :: M) g d = rd S M g (rd1 S g d i) := rfl
    rw [h1]
    have hE' : ∀ k, (k, true) ∈ pre → isD (rd1 S g d i) k = true := fun k hk => by rw [isD_rd1 (by omega), hE k hk]; rfl
    have hrest := ih (d := rd1 S g d i) (by rw [rd1_len]; exact hl) hE' (fun j hj => hM j (List.mem_cons_of_mem _ hj))
    cases ht : S.turn i
    · cases hd : isD d i
      · cases hf : S.fit i g
        · have : rd1 S g d i = d := isD_ext (rd1_len _ _ _) fun j => by
            rw [isD_rd1 (by omega)]
            by_cases hj : j = i
            · subst hj; simp [ht, hf]
            · simp [hj]
          rw [this] at hrest ⊢; exact hrest
        · have : rd1 S g d i = d.set i true := by unfold rd1; rw [ht, hd, hf]; rfl
          rw [this] at hrest ⊢
          refine .step i hlt hd (live_ready hc hL hE hi) hf ?_
          rw [hS.still i g hlt ht]; exact hrest
      · have : rd1 S g d i = d := by unfold rd1; rw [hd]; simp
        rw [this] at hrest ⊢; exact hrest
    · have : rd1 S g d i = d := by unfold rd1; rw [ht]; simp
      rw [this] at hrest ⊢; exact hrest
theorem LPath.steps {pre ev : List Ev} (hc : Cut S pre ev) {L : List Nat} (hL : LiveOf pre L) (hS : S.Good) {t s : St G} (hl : t.2.length = S.n) (hE : ∀ k, (k, true) ∈ pre → isD t.2 k = true) (h : LPath S L t s) : Steps S t.1 t.2 s.1 s.2 := by
  have hlt : ∀ i ∈ L, i < t.2.length := by rw [hl]; exact live_lt hc hL
  induction h with
  | start => exact rd_steps hc hL hS hl hE L (fun i hi => hi)
  | @next s i h1 h2 h3 h4 h5 ih =>
    have hs : s.2.length = S.n := h1.len.trans hl
    have hE' : ∀ k, (k, true) ∈ pre → isD (s.2.set i true) k = true := fun k hk => by
      rw [isD_set (by rw [hs]; exact live_lt hc hL i h2)]
      split
      · rfl
      · exact h1.keeps hlt (hE k hk)
    refine ih.trans (.step i (live_lt hc hL i h2) h3 (live_ready hc hL (fun k hk => h1.keeps hlt (hE k hk)) h2) h5 ?_)
    exact rd_steps hc hL hS (by rw [List.length_set]; exact hs) hE' L (fun i hi => hi)
/-- As long as a point that has ended is to be told, the steps ahead of it are those of live ones. -/
theorem to_live {pre ev : List Ev} {k : Nat} (hc : Cut S pre ((k, true) :: ev)) {L : List Nat} (hL : LiveOf pre L) (hS : S.Good) {g d g' d'} (h : Steps S g d g' d') (hl : d.length = S.n) (hE : ∀ k, (k, true) ∈ pre → isD d k = true) (hd : isD d' k = true) :
    ∃ g1 d1, LSteps S L g d g1 d1 ∧ isD d1 k = true ∧ d1.length = S.n ∧ Steps S g1 d1 g' d' := by
  have hkm := mem_moments.1 (hc.perm.mem_iff.1 (List.mem_append_right _ (List.mem_cons_self ..)) : ((k, true) : Ev) ∈ moments S)
  induction h with
  | refl g d => exact ⟨g, d, .refl g d, hd, hl, .refl g d⟩
  | @step g d g' d' i h1 h2 h3 h4 hr ih =>
    cases hk : isD d k
    · have hi : i ∈ L := (hL i).2 ⟨by
        rcases hc.mem' (mem_moments.2 ⟨h1, fun q => by cases q⟩ : ((i, false) : Ev) ∈ moments S) with q | q
        · exact q
        · rcases List.mem_cons.1 q with q | q
          · cases q
          · have hle : ¬ evLess S (i, false) (k, true) := (List.pairwise_cons.1 (List.pairwise_append.1 hc.sorted).2.1).1 _ q
            have hlt : S.to k < S.fr i := by
              unfold evLess at hle
              simp only [Sys.at, Bool.false_eq_true, if_false, if_true, and_true] at hle
              omega
            by_cases hki : k = i
            · subst hki; have := hS.span k hkm.1 (hkm.2 rfl); omega
            · exact absurd hlt (fun q => h3 k hkm.1 hk (hkm.2 rfl) hki (hS.low k hkm.1 (hkm.2 rfl)) q), fun q => by rw [hE i q] at h2; cases h2⟩
      obtain ⟨g1, d1, k1, k2, k3, k4⟩ := ih (by rw [List.length_set]; exact hl) (fun k hk => by
        rw [isD_set (by omega)]
        split
        · rfl
        · exact hE k hk) hd
      exact ⟨g1, d1, .step i hi h2 h4 k1, k2, k3, k4⟩
    · exact ⟨g, d, .refl g d, hk, hl, .step i h1 h2 h3 h4 hr⟩
theorem all_live {pre : List Ev} (hc : Cut S pre []) {L : List Nat} (hL : LiveOf pre L) {g d g' d'} (h : Steps S g d g' d') (hl : d.length = S.n) (hE : ∀ k, (k, true) ∈ pre → isD d k = true) : LSteps S L g d g' d' := by
  induction h with
  | refl g d => exact .refl g d
  | @step g d g' d' i h1 h2 h3 h4 hr ih =>
    have hb : ((i, false) : Ev) ∈ pre := by
      rcases hc.mem' (mem_moments.2 ⟨h1, fun q => by cases q⟩ : ((i, false) : Ev) ∈ moments S) with q | q
      · exact q
      · cases q
    have hi : i ∈ L := (hL i).2 ⟨hb, fun q => by rw [hE i q] at h2; cases h2⟩
    refine .step i hi h2 h4 (ih (by rw [List.length_set]; exact hl) fun k hk => ?_)
    rw [isD_set (by omega)]
    split
    · rfl
    · exact hE k hk

theorem Cut.noEnd {pre ev : List Ev} {i : Nat} (hS : S.Good) (hc : Cut S pre ((i, false) :: ev)) (h : (i, true) ∈ pre) : False := by
  have hm := mem_moments.1 (hc.mem h)
  have hsp := hS.span i hm.1 (hm.2 rfl)
  refine hc.ahead h (List.mem_cons_self ..) ?_
  unfold evLess
  simp only [Sys.at, Bool.false_eq_true, if_false, if_true, and_true]
  omega
theorem LiveOf.beg {pre ev : List Ev} {L : List Nat} {i : Nat} (hS : S.Good) (hc : Cut S pre ((i, false) :: ev)) (hL : LiveOf pre L) : LiveOf (pre ++ [(i, false)]) (L ++ [i]) := fun j => by
  rw [List.mem_append, List.mem_append, List.mem_append, List.mem_singleton, List.mem_singleton, List.mem_singleton, hL j]
  constructor
  · rintro (⟨h1, h2⟩ | rfl)
    · exact ⟨.inl h1, fun q => by rcases q with q | q; exact h2 q; cases q⟩
    · refine ⟨.inr rfl, ?_⟩
      rintro (q | q)
      · exact hc.noEnd hS q
      · cases q
  · rintro ⟨h1, h2⟩
    rcases h1 with h1 | h1
    · exact .inl ⟨h1, fun q => h2 (.inl q)⟩
    · cases h1; exact .inr rfl
theorem LiveOf.stop {pre : List Ev} {L : List Nat} {i : Nat} (hL : LiveOf pre L) : LiveOf (pre ++ [(i, true)]) (L.filter fun j => decide (j ≠ i)) := fun j => by
  rw [List.mem_filter, List.mem_append, List.mem_append, List.mem_singleton, List.mem_singleton, hL j]
  constructor
  · rintro ⟨⟨h1, h2⟩, h3⟩
    refine ⟨.inl h1, ?_⟩
    rintro (q | q)
    · exact h2 q
    · cases q; simp at h3
  · rintro ⟨h1, h2⟩
    have h1 : (j, false) ∈ pre := by
      rcases h1 with q | q
      · exact q
      · cases q
    refine ⟨⟨h1, fun q => h2 (.inl q)⟩, ?_⟩
    simp only [decide_eq_true_eq]
    intro q; subst q; exact h2 (.inr rfl)

/-- What the search keeps: each is reached by steps, and all that have ended are done. -/
structure Inv (S : Sys G) (from0 : List (St G)) (pre : List Ev) (now : List (St G)) : Prop where
  len : ∀ s ∈ now, s.2.length = S.n
  ended : ∀ s ∈ now, ∀ k, (k, true) ∈ pre → isD s.2 k = true
  sound : ∀ s ∈ now, ∃ t ∈ from0, Steps S t.1 t.2 s.1 s.2
theorem Inv.grown {from0 now out : List (St G)} {pre ev : List Ev} (h : Inv S from0 pre now) (hS : S.Good) (hc : Cut S pre ev) {L : List Nat} (hL : LiveOf pre L) (hg : Grown S L now out) : Inv S from0 pre out := by
  have hlt := live_lt hc hL
  refine ⟨fun s hs => ?_, fun s hs k hk => ?_, fun s hs => ?_⟩
  · obtain ⟨t, ht, hp⟩ := hg.reach s hs
    rw [hp.len]; exact h.len t ht
  · obtain ⟨t, ht, hp⟩ := hg.reach s hs
    exact hp.keeps (by rw [h.len t ht]; exact hlt) (h.ended t ht k hk)
  · obtain ⟨t, ht, hp⟩ := hg.reach s hs
    obtain ⟨u, hu, hq⟩ := h.sound t ht
    exact ⟨u, hu, hq.trans (hp.steps hc hL hS (h.len t ht) (h.ended t ht))⟩
theorem Run.spec (hS : S.Good) {from0 : List (St G)} : ∀ {ev L from' out}, Run S ev L from' out → ∀ {pre}, Cut S pre ev → LiveOf pre L → Inv S from0 pre from' →
    (∀ s ∈ out, s.2.length = S.n ∧ Full S s.2 ∧ ∃ t ∈ from0, Steps S t.1 t.2 s.1 s.2) ∧
    (∀ s ∈ from', ∀ g' d', Steps S s.1 s.2 g' d' → Full S d' → ∃ e, (g', e) ∈ out) := by
  intro ev L from' out h
  induction h with
  | @fin L from' out hg =>
    intro pre hc hL hI
    have hO := hI.grown hS hc hL hg
    refine ⟨fun s hs => ⟨hO.len s hs, fun i hi hm => hO.ended s hs i ?_, hO.sound s hs⟩, fun s hs g' d' hp hF => ?_⟩
    · rcases hc.mem' (mem_moments.2 ⟨hi, fun _ => hm⟩ : ((i, true) : Ev) ∈ moments S) with q | q
      · exact q
      · cases q
    · have hls := all_live hc hL hp (hI.len s hs) (hI.ended s hs)
      have hb := hg.base s hs
      obtain ⟨e1, h1, _⟩ := hg.has hS (live_lt hc hL) hI.len hls (hI.len s hs) hb (rd_ext (by rw [hI.len s hs]; exact live_lt hc hL))
      exact ⟨e1, h1⟩
  | @beg ev L from' out i _ ih =>
    intro pre hc hL hI
    refine ih hc.push (hL.beg hS hc) ⟨hI.len, fun s hs k hk => ?_, hI.sound⟩
    rcases List.mem_append.1 hk with q | q
    · exact hI.ended s hs k q
    · rw [List.mem_singleton] at q; cases q
  | @stop ev L from' mid out k hg _ ih =>
    intro pre hc hL hI
    have hO := hI.grown hS hc hL hg
    obtain ⟨h1, h2⟩ := ih (pre := pre ++ [(k, true)]) hc.push hL.stop ⟨fun s hs => hO.len s (List.mem_filter.1 hs).1, fun s hs j hj => by
      rcases List.mem_append.1 hj with q | q
      · exact hO.ended s (List.mem_filter.1 hs).1 j q
      · rw [List.mem_singleton] at q; cases q; exact (List.mem_filter.1 hs).2, fun s hs => hO.sound s (List.mem_filter.1 hs).1⟩
    refine ⟨h1, fun s hs g' d' hp hF => ?_⟩
    have hkm := mem_moments.1 (hc.perm.mem_iff.1 (List.mem_append_right _ (List.mem_cons_self ..)) : ((k, true) : Ev) ∈ moments S)
    obtain ⟨g1, d1, k1, k2, k3, k4⟩ := to_live hc hL hS hp (hI.len s hs) (hI.ended s hs) (hF k hkm.1 (hkm.2 rfl))
    obtain ⟨e1, q1, q2⟩ := hg.has hS (live_lt hc hL) hI.len k1 (hI.len s hs) (hg.base s hs) (rd_ext (by rw [hI.len s hs]; exact live_lt hc hL))
    obtain ⟨e', q3, q4⟩ := k4.ahead hS k3 q2
    exact h2 (g1, e1) (List.mem_filter.2 ⟨q1, q2.more k k2⟩) g' e' q3 (hF.mono q4.more)
/-- The search of an era finds the orders' ends. -/
theorem Era.spec (hS : S.Good) {from' out : List (St G)} (h : Era S from' out) (hf : ∀ s ∈ from', s.2 = zeros S) (g' : G) : (∃ d, (g', d) ∈ out) ↔ ∃ s ∈ from', Ord S s.1 g' := by
  obtain ⟨ev, hp, hs, hr⟩ := h
  have hz : ∀ s ∈ from', s.2.length = S.n := fun s hs => by rw [hf s hs]; exact List.length_replicate ..
  obtain ⟨h1, h2⟩ := Run.spec hS (from0 := from') hr (pre := []) ⟨hp, hs⟩ (fun i => by simp) ⟨hz, fun _ _ _ q => (by cases q), fun s hs => ⟨s, hs, .refl _ _⟩⟩
  constructor
  · rintro ⟨d, hd⟩
    obtain ⟨_, hF, t, ht, hst⟩ := h1 _ hd
    rw [hf t ht] at hst
    exact ⟨t, ht, d, hst, hF⟩
  · rintro ⟨s, hs, d, hst, hF⟩
    rw [← hf s hs] at hst
    exact h2 s hs g' d hst hF
theorem Era.len (hS : S.Good) {from' out : List (St G)} (h : Era S from' out) (hf : ∀ s ∈ from', s.2 = zeros S) : ∀ s ∈ out, s.2.length = S.n := by
  obtain ⟨ev, hp, hs, hr⟩ := h
  have hz : ∀ s ∈ from', s.2.length = S.n := fun s hs => by rw [hf s hs]; exact List.length_replicate ..
  exact fun s hq => ((Run.spec hS (from0 := from') hr (pre := []) ⟨hp, hs⟩ (fun i => by simp) ⟨hz, fun _ _ _ q => (by cases q), fun s hs => ⟨s, hs, .refl _ _⟩⟩).1 s hq).1
end Go.Proofs.YtpdfmfkoopdfgaaGreatDoor.LinP
end
section
namespace Go.Proofs.YtpdfmfkoopdfgaaGreatDoor
set_option maxRecDepth 100000
open LinP
section
variable {G : Type} {S : LinP.Sys G}
theorem ready_two (hn : S.n = 2) {d : List Bool} {i k : Nat} (hk : k < 2) (hik : k ≠ i) (hi : i < 2) (hd : isD d k = false) (hm : S.must k = true) : Ready S d i ↔ ¬ (0 ≤ S.to k ∧ S.to k < S.fr i) := by
  constructor
  · intro h q
    exact h k (by omega) hd hm hik q.1 q.2
  · intro h j hj _ _ hji h0 h1
    have : j = k := by omega
    subst this
    exact h ⟨h0, h1⟩
theorem ready_done {d : List Bool} {i : Nat} (h : ∀ k, k < S.n → k ≠ i → isD d k = true) : Ready S d i := fun k hk hd _ hki _ _ => by rw [h k hk hki] at hd; cases hd
/-- From one point left. -/
theorem one_left (hn : S.n = 2) {i k : Nat} (hi : i < 2) (hk : k < 2) (hik : i ≠ k) (hm : S.must i = true) {g g' : G} {d d' : List Bool} (hl : d.length = 2) (h0 : isD d i = false) (h1 : isD d k = true) (hs : Steps S g d g' d') (hf : Full S d') : S.fit i g = true ∧ g' = S.nx i g := by
  cases hs with
  | refl => have := hf i (by omega) hm; rw [h0] at this; cases this
  | step j a b c e f =>
    have hj : j = i := by
      by_cases q : j = k
      · subst q; rw [h1] at b; cases b
      · omega
    subst hj
    refine ⟨e, ?_⟩
    cases f with
    | refl => rfl
    | step x a2 b2 _ _ _ =>
      exfalso
      rw [isD_set (by omega)] at b2
      by_cases q : j = x
      · rw [if_pos q] at b2; cases b2
      · rw [if_neg q] at b2
        have : x = k := by omega
        subst this; rw [h1] at b2; cases b2
theorem ord_two (hn : S.n = 2) (m0 : S.must 0 = true) (m1 : S.must 1 = true) (g g' : G) : LinP.Ord S g g' ↔
    (¬ (0 ≤ S.to 1 ∧ S.to 1 < S.fr 0) ∧ S.fit 0 g = true ∧ S.fit 1 (S.nx 0 g) = true ∧ g' = S.nx 1 (S.nx 0 g)) ∨
    (¬ (0 ≤ S.to 0 ∧ S.to 0 < S.fr 1) ∧ S.fit 1 g = true ∧ S.fit 0 (S.nx 1 g) = true ∧ g' = S.nx 0 (S.nx 1 g)) := by
  have hz : zeros S = [false, false] := by unfold zeros; rw [hn]; rfl
  unfold LinP.Ord
  rw [hz]
  constructor
  · rintro ⟨d', hs, hf⟩
    cases hs with
    | refl => have := hf 0 (by omega) m0; cases this
    | step i a b c e f =>
      have hi : i = 0 ∨ i = 1 := by omega
      rcases hi with rfl | rfl
      · have h1 := one_left hn (i := 1) (k := 0) (by omega) (by omega) (by omega) m1 rfl rfl rfl f hf
        exact .inl ⟨(ready_two hn (by omega) (by omega) (by omega) rfl m1).1 c, e, h1.1, h1.2⟩
      · have h1 := one_left hn (i := 0) (k := 1) (by omega) (by omega) (by omega) m0 rfl rfl rfl f hf
        exact .inr ⟨(ready_two hn (by omega) (by omega) (by omega) rfl m0).1 c, e, h1.1, h1.2⟩
  · rintro (⟨h1, h2, h3, rfl⟩ | ⟨h1, h2, h3, rfl⟩)
    · refine ⟨[true, true], .step 0 (by omega) rfl ((ready_two hn (k := 1) (by omega) (by omega) (by omega) rfl m1).2 h1) h2 (.step 1 (by omega) rfl (ready_done fun k hk hki => ?_) h3 (.refl _ _)), fun i hi _ => ?_⟩
      · have : k = 0 := by omega
        subst this; rfl
      · have : i = 0 ∨ i = 1 := by omega
        rcases this with rfl | rfl <;> rfl
    · refine ⟨[true, true], .step 1 (by omega) rfl ((ready_two hn (k := 0) (by omega) (by omega) (by omega) rfl m0).2 h1) h2 (.step 0 (by omega) rfl (ready_done fun k hk hki => ?_) h3 (.refl _ _)), fun i hi _ => ?_⟩
      · have : k = 1 := by omega
        subst this; rfl
      · have : i = 0 ∨ i = 1 := by omega
        rcases this with rfl | rfl <;> rfl
end
end Go.Proofs.YtpdfmfkoopdfgaaGreatDoor
end
section
namespace Go.Proofs.YtpdfmfkoopdfgaaGreatDoor
set_option maxRecDepth 100000
open LinP
section
variable {G : Type} {S : LinP.Sys G}
/-- The graphs that steps lead to, with all done that must be. -/
def Reach (S : LinP.Sys G) (g : G) (d : List Bool) (g' : G) : Prop := ∃ d', Steps S g d g' d' ∧ Full S d'
/-- No question that can be told is left. -/
def ToldAll (S : LinP.Sys G) (g : G) (d : List Bool) : Prop := ∀ i, i < S.n → isD d i = false → S.turn i = false → Ready S d i → S.fit i g = false
end
end Go.Proofs.YtpdfmfkoopdfgaaGreatDoor
end
