/- PRefEnds. -/
import Derived.Test.YtpdfmfkoopdfgaaGreatDoorB40
import Derived.Test.YtpdfmfkoopdfgaaGreatDoorB38
set_option linter.unusedVariables false
set_option linter.unusedSimpArgs false
namespace Go.Proofs.YtpdfmfkoopdfgaaGreatDoor
set_option maxRecDepth 100000
open Go.RowKit Aid Gr Hs LinP HeapP

/-- The points of the era that begins at a point. -/
def eraAt (ps : List Pt) (a : Nat) : List Pt := (ps.drop a).take (eraLen (ps.drop a))
def eraN (ps : List Pt) (a : Nat) : Nat := eraLen (ps.drop a)
/-- Where the document's search stands between two eras. -/
structure ES (fs : List Int) (ps0 : List Pt) (g0 : List Arc) (a : Nat) (L : List (List Arc)) : Prop where
  le : a ≤ ps0.length
  chain : ∀ g', Chain ps0 g0 g' ↔ ∃ m ∈ L, Chain (ps0.drop a) m g'
  srt : L.Pairwise LexLt
  code : ∃ Bs, BaseP fs (ps0.drop a) (fun g => g ∈ L) Bs
  len : ∀ m ∈ L, Rises m ∧ m.length + tn (ps0.drop a) ≤ 900
theorem ES.start (fs : List Int) (ps0 : List Pt) (g0 : List Arc) (hr : Rises g0) (hl : g0.length + tn ps0 ≤ 900) : ES fs ps0 g0 0 [g0] :=
  ⟨Nat.zero_le _, fun g' => by simp, List.pairwise_singleton _ _, ⟨fun _ g => g = g0, fun _ _ _ h _ => h, fun _ _ _ _ h1 h2 _ => h1.trans h2.symm, fun g hg => ⟨fun _ => 0, fun _ => Nat.zero_le _, List.mem_singleton.1 hg⟩⟩, fun m hm => by rw [List.mem_singleton] at hm; subst hm; exact ⟨hr, by simpa using hl⟩⟩
theorem drop_ne {ps0 : List Pt} {a : Nat} (h : a < ps0.length) : ps0.drop a ≠ [] := fun e => by
  have := congrArg List.length e
  rw [List.length_drop] at this; simp at this; omega
theorem chain_era {ps : List Pt} (hps : ps ≠ []) {g g' : List Arc} : Chain ps g g' ↔ ∃ m, LinP.Ord (sysOf (ps.take (eraLen ps))) g m ∧ Chain (ps.drop (eraLen ps)) m g' := by
  constructor
  · intro h
    cases h with
    | done => exact absurd rfl hps
    | era _ ho hr => exact ⟨_, ho, hr⟩
  · rintro ⟨m, ho, hr⟩
    exact .era hps ho hr
theorem ES.next {fs : List Int} {ps0 : List Pt} {g0 : List Arc} {a : Nat} {L : List (List Arc)} (hP : PsGood ps0 fs) (h : ES fs ps0 g0 a L) (ha : a < ps0.length) {M : List (List Arc)} (hs : M.Pairwise LexLt) (hm : ∀ g', g' ∈ M ↔ ∃ m ∈ L, LinP.Ord (sysOf (eraAt ps0 a)) m g') : ES fs ps0 g0 (a + eraN ps0 a) M := by
  have hne := drop_ne ha
  have hle : eraN ps0 a ≤ ps0.length - a := by have := eraLen_le (ps0.drop a); rw [List.length_drop] at this; exact this
  have hdd : ps0.drop (a + eraN ps0 a) = (ps0.drop a).drop (eraLen (ps0.drop a)) := by rw [List.drop_drop]; rfl
  refine ⟨by omega, fun g' => ?_, hs, ?_, fun m hm' => ?_⟩
  · rw [h.chain g', hdd]
    constructor
    · rintro ⟨m, hmL, hc⟩
      obtain ⟨x, ho, hr⟩ := (chain_era hne).1 hc
      exact ⟨x, (hm x).2 ⟨m, hmL, ho⟩, hr⟩
    · rintro ⟨x, hx, hr⟩
      obtain ⟨m, hmL, ho⟩ := (hm x).1 hx
      exact ⟨m, hmL, .era hne ho hr⟩
  · obtain ⟨Bs, hB⟩ := h.code
    obtain ⟨Bs', hB'⟩ := code_next (hP.sub (List.drop_sublist a ps0)) hne hB
    rw [hdd]
    exact ⟨Bs', hB'.stay, hB'.one, fun g hg => hB'.all g ((hm g).1 hg)⟩
  · obtain ⟨x, hx, ho⟩ := (hm m).1 hm'
    have h1 := h.len x hx
    have h2 := ord_len ho h1.1
    have h3 := tn_split (ps0.drop a) (eraLen (ps0.drop a))
    rw [hdd]
    refine ⟨h2.2, ?_⟩
    have h4 : tn (eraAt ps0 a) = tn ((ps0.drop a).take (eraLen (ps0.drop a))) := rfl
    have := h2.1
    omega
theorem ES.few {fs : List Int} {ps0 : List Pt} {g0 : List Arc} {a : Nat} {L : List (List Arc)} (hP : PsGood ps0 fs) (h : ES fs ps0 g0 a L) : L.length ≤ 1000000000000 := by
  obtain ⟨Bs, hB⟩ := h.code
  exact few_graphs hB hP.few L (lex_nodup h.srt) (fun g hg => hg)
theorem ES.lim {fs : List Int} {ps0 : List Pt} {g0 : List Arc} {a : Nat} {L : List (List Arc)} (hP : PsGood ps0 fs) (h : ES fs ps0 g0 a L) (ha : a < ps0.length) : ∀ l : List (List Arc), l.Nodup → (∀ x ∈ l, ∃ m ∈ L, LinP.Ord (sysOf (eraAt ps0 a)) m x) → l.length ≤ 1000000000000 := by
  intro l hl hx
  obtain ⟨Bs, hB⟩ := h.code
  obtain ⟨Bs', hB'⟩ := code_next (hP.sub (List.drop_sublist a ps0)) (drop_ne ha) hB
  exact few_graphs hB' hP.few l hl hx
/-- Inside an era, behind i graphs. -/
structure EA (S : LinP.Sys (List Arc)) (L : List (List Arc)) (i : Nat) (M : List (List Arc)) : Prop where
  srt : M.Pairwise LexLt
  mem : ∀ g', g' ∈ M ↔ ∃ m ∈ L.take i, LinP.Ord S m g'
theorem EA.start (S : LinP.Sys (List Arc)) (L : List (List Arc)) : EA S L 0 [] := ⟨List.Pairwise.nil, fun g' => by simp⟩
theorem EA.next {S : LinP.Sys (List Arc)} {L : List (List Arc)} {i : Nat} {M M' : List (List Arc)} (h : EA S L i M) {m : List Arc} (hm : L[i]? = some m) (hs : M'.Pairwise LexLt) (hx : ∀ g', g' ∈ M' ↔ g' ∈ M ∨ LinP.Ord S m g') : EA S L (i + 1) M' := ⟨hs, fun g' => by
  rw [hx g', h.mem g', List.take_add_one, hm]
  constructor
  · rintro (⟨x, q1, q2⟩ | q)
    · exact ⟨x, List.mem_append_left _ q1, q2⟩
    · exact ⟨m, by simp, q⟩
  · rintro ⟨x, q1, q2⟩
    rcases List.mem_append.1 q1 with q | q
    · exact .inl ⟨x, q, q2⟩
    · simp at q; subst q; exact .inr q2⟩
theorem eraLen_at {ps0 : List Pt} {a e : Nat} (ha : a < ps0.length) (hae : a ≤ e) (heN : e ≤ ps0.length) (hall : ∀ j, a ≤ j → j < e → (ptAt ps0 j).era = (ptAt ps0 a).era) (hx : e = ps0.length ∨ (ptAt ps0 e).era ≠ (ptAt ps0 a).era) : e = a + eraN ps0 a := by
  have hhead : (ps0.drop a).headD ptD = ptAt ps0 a := by
    rw [List.headD_eq_head?_getD, List.head?_drop, ptAt_some ha]; rfl
  have hget : ∀ j (hj : j < (ps0.drop a).length), (ps0.drop a)[j] = ptAt ps0 (a + j) := fun j hj => by
    rw [List.length_drop] at hj
    have := ptAt_some (ps := ps0) (i := a + j) (by omega)
    rw [List.getElem?_eq_getElem (by omega)] at this
    rw [List.getElem_drop]
    exact Option.some.inj this
  unfold eraN eraLen
  rw [hhead]
  by_cases he : e = ps0.length
  · have : (ps0.drop a).findIdx? (fun p => p.era != (ptAt ps0 a).era) = none := by
      rw [List.findIdx?_eq_none_iff]
      intro p hp
      obtain ⟨j, hj, rfl⟩ := List.getElem_of_mem hp
      rw [hget j hj]
      have hj' := hj
      rw [List.length_drop] at hj'
      simp [hall (a + j) (by omega) (by omega)]
    rw [this]
    show e = a + (ps0.drop a).length
    rw [List.length_drop]
    omega
  · have hne : (ptAt ps0 e).era ≠ (ptAt ps0 a).era := hx.resolve_left he
    have hlt : e - a < (ps0.drop a).length := by rw [List.length_drop]; omega
    have : (ps0.drop a).findIdx? (fun p => p.era != (ptAt ps0 a).era) = some (e - a) := by
      rw [List.findIdx?_eq_some_iff_getElem]
      refine ⟨hlt, ?_, fun j hj => ?_⟩
      · rw [hget _ hlt, show a + (e - a) = e by omega]
        simpa using hne
      · rw [hget j (by omega)]
        simp [hall (a + j) (by omega) (by omega)]
    rw [this]
    show e = a + (e - a)
    omega
end Go.Proofs.YtpdfmfkoopdfgaaGreatDoor
