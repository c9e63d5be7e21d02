/- PLive, PWider. -/
import Derived.Test.YtpdfmfkoopdfgaaGreatDoorC00
import Derived.Test.YtpdfmfkoopdfgaaGreatDoorB34
import Derived.Test.YtpdfmfkoopdfgaaGreatDoorB38
import Derived.Test.YtpdfmfkoopdfgaaGreatDoorC02
set_option linter.unusedVariables false
set_option linter.unusedSimpArgs false
section
namespace Go.Proofs.YtpdfmfkoopdfgaaGreatDoor
set_option maxRecDepth 100000
open Go.RowKit Aid Gr Hs LinP HeapP

/-! ### calls of kinds other than 17: points and lists without regard to keys -/
def pt1 (c : Cl) : List Pt := if ((openB c && asksB c.k) || idleB c) = true then [] else if openB c = true then [ptOpen c] else [ptPlain c]
theorem pts1 {c : Cl} (h : c.k ≠ 17) (keys : List Int) : ptsOf c keys = pt1 c := by
  unfold ptsOf pt1
  rw [if_pos h]
theorem points1 {l : List Cl} (h : ∀ c ∈ l, c.k ≠ 17) : pointsOf l = l.flatMap pt1 := by
  unfold pointsOf pointsK
  generalize keysOf l = keys
  induction l with
  | nil => rfl
  | cons a l ih => rw [List.flatMap_cons, List.flatMap_cons, pts1 (h a (List.mem_cons_self ..)), ih (fun c hc => h c (List.mem_cons_of_mem _ hc))]
def li1 (c : Cl) : Bool := !openB c && !idleB c && !decide (c.list.length = 0)
theorem listed1 {l : List Cl} (h : ∀ c ∈ l, c.k ≠ 17) : listedB l = !l.any li1 := by
  unfold listedB
  generalize keysOf l = keys
  congr 1
  induction l with
  | nil => rfl
  | cons a l ih =>
    rw [List.any_cons, List.any_cons, ih (fun c hc => h c (List.mem_cons_of_mem _ hc))]
    congr 1
    unfold notListed Hs.listedB li1
    rw [if_pos (.inl (h a (List.mem_cons_self ..)))]
theorem pt1_one (c : Cl) : (pt1 c).length ≤ 1 := by
  unfold pt1
  split
  · simp
  · split <;> simp
theorem pw_one {α : Type} {P : α → α → Prop} : ∀ {l : List α}, l.length ≤ 1 → l.Pairwise P
  | [], _ => List.Pairwise.nil
  | [_], _ => List.pairwise_singleton _ _
  | _ :: _ :: _, h => by simp at h
theorem pt1_fr {c : Cl} {p : Pt} (h : p ∈ pt1 c) : p.fr = c.fr ∧ p.era = c.era ∧ opOf p = ⟨c.k, c.u, c.v, c.x⟩ := by
  unfold pt1 at h
  split at h
  · cases h
  · split at h <;> (rw [List.mem_singleton] at h; subst h; exact ⟨rfl, rfl, rfl⟩)
theorem pt1_must {c : Cl} {p : Pt} (h : p ∈ pt1 c) (hm : p.must = true) : p = ptPlain c ∧ openB c = false := by
  unfold pt1 at h
  split at h
  · cases h
  · split at h
    · rw [List.mem_singleton] at h; subst h; cases hm
    · rename_i h2
      rw [List.mem_singleton] at h
      exact ⟨h, by simpa using h2⟩
/-! ### threads that ask, are done at a moment, and are answered -/
/-- A call that is done: which, when, its era, its operation, its answer. -/
structure Dn where
  k : Nat
  t : Int
  e : Int
  o : Gr.Op
  an : Ans
def DoneRun : List Arc → List Dn → List Arc → Prop
  | g, [], g' => g' = g
  | g, d :: ds, g' => d.an = doA g d.o ∧ DoneRun (doG g d.o) ds g'
theorem DoneRun.push : ∀ {ds : List Dn} {g m : List Arc} {d : Dn}, DoneRun g ds m → d.an = doA m d.o → DoneRun g (ds ++ [d]) (doG m d.o)
  | [], g, m, d, h, h2 => by
    have : m = g := h
    subst this
    exact ⟨h2, rfl⟩
  | a :: ds, g, m, d, h, h2 => ⟨h.1, DoneRun.push h.2 h2⟩
def clOp (c : Cl) : Gr.Op := ⟨c.k, c.u, c.v, c.x⟩
/-- A call that may be, at a moment. -/
structure OkC (i era : Int) (c : Cl) : Prop where
  k : 11 ≤ c.k ∧ c.k ≤ 16
  me : 0 ≤ c.me ∧ c.me < 3
  u : 0 ≤ c.u ∧ c.u ≤ 2
  v : 0 ≤ c.v ∧ c.v ≤ 2
  x : 0 ≤ c.x ∧ c.x < 18446744073709551616
  e : 0 ≤ c.era ∧ c.era ≤ era
  fr : 0 ≤ c.fr ∧ c.fr < i
  to' : c.to = -1 ∧ c.err = 0 ∨ c.fr < c.to ∧ c.to < i ∧ (c.err = 0 ∨ c.err = 5)
  nil : c.list = []
structure Live (i era : Int) (h : List Cl) (g : List Arc) (ats : List Int) (ov : List Bool) (outs : List Ans) (dn : List Dn) : Prop where
  len : h.length ≤ 9
  al : ats.length = 3
  ol : ov.length = 3
  ul : outs.length = 3
  ok : ∀ c ∈ h, OkC i era c
  fits : ∀ (j k : Nat) (a b : Cl), j < k → h[j]? = some a → h[k]? = some b → fitsB a b = true
  opens : ∀ (k : Nat) (c : Cl), h[k]? = some c → c.to < 0 → c.era = era → ats[c.me.toNat]? = some (k : Int)
  ths : ∀ (me : Nat) (z : Int), ats[me]? = some z → z = -1 ∨ ∃ (k : Nat) (c : Cl), z = (k : Int) ∧ h[k]? = some c ∧ c.me = (me : Int) ∧ c.era = era ∧ c.to = -1 ∧ (ov[me]? = some true → ∃ d ∈ dn, d.k = k ∧ outs[me]? = some d.an) ∧ (ov[me]? = some false → ∀ d ∈ dn, d.k ≠ k)
  run : DoneRun [] dn g
  dok : ∀ d ∈ dn, ∃ c, h[d.k]? = some c ∧ d.o = clOp c ∧ d.e = c.era ∧ c.fr < d.t ∧ d.t < i ∧ (0 ≤ c.to → d.t < c.to ∧ c.err = d.an.err ∧ c.is = d.an.is ∧ c.n = d.an.n ∧ c.w = d.an.w)
  dpw : dn.Pairwise fun a b => a.t < b.t ∧ a.k ≠ b.k ∧ a.e ≤ b.e
  all : ∀ (k : Nat) (c : Cl), h[k]? = some c → 0 ≤ c.to → ∃ d ∈ dn, d.k = k
theorem OkC.later {i era : Int} {c : Cl} (h : OkC i era c) {i' era' : Int} (hi : i ≤ i') (he : era ≤ era') : OkC i' era' c := by
  obtain ⟨h1, h2, h3, h4, h5, h6, h7, h8, h9⟩ := h
  exact ⟨h1, h2, h3, h4, h5, by omega, by omega, by omega, h9⟩
theorem Live.start : Live 0 0 [] [] [-1, -1, -1] [false, false, false] [⟨0, false, 0, 0, []⟩, ⟨0, false, 0, 0, []⟩, ⟨0, false, 0, 0, []⟩] [] := by
  refine ⟨by simp, rfl, rfl, rfl, by simp, fun j k a b _ h => by simp at h, fun k c h => by simp at h, fun me z h => .inl ?_, rfl, by simp, List.Pairwise.nil, fun k c h => by simp at h⟩
  rcases me with _ | _ | _ | me <;> simp_all
theorem Live.skip {i era : Int} {h : List Cl} {g : List Arc} {ats : List Int} {ov : List Bool} {outs : List Ans} {dn : List Dn} (L : Live i era h g ats ov outs dn) : Live (i + 1) era h g ats ov outs dn :=
  ⟨L.len, L.al, L.ol, L.ul, fun c hc => (L.ok c hc).later (by omega) (Int.le_refl _), L.fits, L.opens, L.ths, L.run, fun d hd => by
    obtain ⟨c, q1, q2, q3, q4, q5, q6⟩ := L.dok d hd
    exact ⟨c, q1, q2, q3, q4, by omega, q6⟩, L.dpw, L.all⟩
theorem Live.crash {i era : Int} {h : List Cl} {g : List Arc} {ats : List Int} {ov : List Bool} {outs : List Ans} {dn : List Dn} (L : Live i era h g ats ov outs dn) : Live (i + 1) (era + 1) h g [-1, -1, -1] [false, false, false] outs dn :=
  ⟨L.len, rfl, rfl, L.ul, fun c hc => (L.ok c hc).later (by omega) (by omega), L.fits, fun k c hk _ he => by
    have := (L.ok c (List.mem_of_getElem? hk)).e
    omega, fun me z h => .inl (by rcases me with _ | _ | _ | me <;> simp_all), L.run, fun d hd => by
    obtain ⟨c, q1, q2, q3, q4, q5, q6⟩ := L.dok d hd
    exact ⟨c, q1, q2, q3, q4, by omega, q6⟩, L.dpw, L.all⟩
theorem Live.ask {i era : Int} {h : List Cl} {g : List Arc} {ats : List Int} {ov : List Bool} {outs : List Ans} {dn : List Dn} (L : Live i era h g ats ov outs dn) {me : Nat} (hm : me < 3) (hz : ats[me]? = some (-1)) (hl : h.length < 9) (hi : 0 ≤ i) (he : 0 ≤ era) {k u v x : Int} (hk : 11 ≤ k ∧ k ≤ 16) (hu : 0 ≤ u ∧ u ≤ 2) (hv : 0 ≤ v ∧ v ≤ 2) (hx : 0 ≤ x ∧ x < 18446744073709551616) {A : Option Addr} {cap : Nat} :
    Live (i + 1) era (h ++ [⟨me, k, u, v, x, era, i, -1, 0, false, 0, 0, [], A, cap⟩]) g (ats.set me (h.length : Int)) (ov.set me false) outs dn := by
  have hnew : (h ++ [(⟨me, k, u, v, x, era, i, -1, 0, false, 0, 0, [], A, cap⟩ : Cl)])[h.length]? = some ⟨me, k, u, v, x, era, i, -1, 0, false, 0, 0, [], A, cap⟩ := by simp
  have hold : ∀ (j : Nat) (c : Cl), h[j]? = some c → (h ++ [(⟨me, k, u, v, x, era, i, -1, 0, false, 0, 0, [], A, cap⟩ : Cl)])[j]? = some c := fun j c hj => by
    rw [List.getElem?_append_left (List.getElem?_eq_some_iff.1 hj).1]; exact hj
  have hcase : ∀ (j : Nat) (c : Cl), (h ++ [(⟨me, k, u, v, x, era, i, -1, 0, false, 0, 0, [], A, cap⟩ : Cl)])[j]? = some c → h[j]? = some c ∨ (j = h.length ∧ c = ⟨me, k, u, v, x, era, i, -1, 0, false, 0, 0, [], A, cap⟩) := fun j c hj => by
    rcases Nat.lt_or_ge j h.length with q | q
    · rw [List.getElem?_append_left q] at hj; exact .inl hj
    · have hlt := (List.getElem?_eq_some_iff.1 hj).1
      rw [List.length_append, List.length_singleton] at hlt
      obtain rfl : j = h.length := by omega
      rw [hnew] at hj
      exact .inr ⟨rfl, (Option.some.inj hj).symm⟩
  refine ⟨by simp; omega, by rw [List.length_set]; exact L.al, by rw [List.length_set]; exact L.ol, L.ul, fun c hc => ?_, fun j j' a b hjj ha hb => ?_, fun j c hj ht hce => ?_, fun m z hmz => ?_, L.run, fun d hd => ?_, L.dpw, fun j c hj ht => ?_⟩
  · rcases List.mem_append.1 hc with q | q
    · exact (L.ok c q).later (by omega) (Int.le_refl _)
    · rw [List.mem_singleton] at q; subst q
      exact ⟨hk, by show (0 : Int) ≤ (me : Int) ∧ (me : Int) < 3; omega, hu, hv, hx, by show 0 ≤ era ∧ era ≤ era; omega, by show 0 ≤ i ∧ i < i + 1; omega, .inl ⟨rfl, rfl⟩, rfl⟩
  · rcases hcase j' b hb with q | ⟨rfl, rfl⟩
    · rcases hcase j a ha with r | ⟨rfl, rfl⟩
      · exact L.fits j j' a b hjj r q
      · have := (List.getElem?_eq_some_iff.1 q).1; omega
    · rcases hcase j a ha with r | ⟨rfl, rfl⟩
      · have ho := L.ok a (List.mem_of_getElem? r)
        have h1 := ho.fr
        have h2 := ho.e
        have h3 := ho.to'
        unfold fitsB
        refine decide_eq_true ⟨by show a.fr < i; omega, by show a.era ≤ era; omega, fun _ => by show a.to < i; omega, fun hae => ?_⟩
        by_cases hme : a.me = (me : Int)
        · right
          by_cases ht : a.to < 0
          · have := L.opens j a r ht hae
            rw [hme, show ((me : Int)).toNat = me by omega, hz] at this
            have := Option.some.inj this
            omega
          · exact ⟨by omega, by show a.to < i; omega⟩
        · exact .inl hme
      · omega
  · rcases hcase j c hj with q | ⟨rfl, rfl⟩
    · have h1 := L.opens j c q ht hce
      have hmec := (L.ok c (List.mem_of_getElem? q)).me
      rw [List.getElem?_set]
      split
      · rename_i e
        rw [← e, hz] at h1
        have := Option.some.inj h1
        omega
      · exact h1
    · show (ats.set me (h.length : Int))[((me : Int)).toNat]? = _
      rw [show ((me : Int)).toNat = me by omega, List.getElem?_set, if_pos rfl, if_pos (by rw [L.al]; exact hm)]
  · rw [List.getElem?_set] at hmz
    split at hmz
    · rename_i e
      subst e
      rw [if_pos (by rw [L.al]; exact hm)] at hmz
      have := Option.some.inj hmz
      refine .inr ⟨h.length, _, this.symm, hnew, rfl, rfl, rfl, fun q => ?_, fun _ d hd => ?_⟩
      · rw [List.getElem?_set, if_pos rfl, if_pos (by rw [L.ol]; exact hm)] at q
        cases q
      · obtain ⟨c, q1, _⟩ := L.dok d hd
        have := (List.getElem?_eq_some_iff.1 q1).1
        omega
    · rename_i e
      rcases L.ths m z hmz with q | ⟨j, c, q1, q2, q3, q4, q5, q6, q7⟩
      · exact .inl q
      · refine .inr ⟨j, c, q1, hold j c q2, q3, q4, q5, fun q => q6 ?_, fun q => q7 ?_⟩
        · rw [List.getElem?_set, if_neg e] at q; exact q
        · rw [List.getElem?_set, if_neg e] at q; exact q
  · obtain ⟨c, q1, q2, q3, q4, q5, q6⟩ := L.dok d hd
    exact ⟨c, hold _ _ q1, q2, q3, q4, by omega, q6⟩
  · rcases hcase j c hj with q | ⟨rfl, rfl⟩
    · exact L.all j c q ht
    · have : (0 : Int) ≤ -1 := ht
      omega
theorem Live.doit {i era : Int} {h : List Cl} {g : List Arc} {ats : List Int} {ov : List Bool} {outs : List Ans} {dn : List Dn} (L : Live i era h g ats ov outs dn) {me k : Nat} {c : Cl} (hm : me < 3) (hz : ats[me]? = some (k : Int)) (hc : h[k]? = some c) (ho : ov[me]? = some false) :
    Live (i + 1) era h (doG g (clOp c)) ats (ov.set me true) (outs.set me (doA g (clOp c))) (dn ++ [⟨k, i, c.era, clOp c, doA g (clOp c)⟩]) := by
  have hk : c.me = (me : Int) ∧ c.era = era ∧ c.to = -1 ∧ ∀ d ∈ dn, d.k ≠ k := by
    rcases L.ths me _ hz with q | ⟨j, c', q1, q2, q3, q4, q5, q6, q7⟩
    · omega
    · obtain rfl : k = j := by omega
      rw [hc] at q2; cases q2
      exact ⟨q3, q4, q5, q7 ho⟩
  have hok := L.ok c (List.mem_of_getElem? hc)
  refine ⟨L.len, L.al, by rw [List.length_set]; exact L.ol, by rw [List.length_set]; exact L.ul, fun c hc => (L.ok c hc).later (by omega) (Int.le_refl _), L.fits, L.opens, fun m z hmz => ?_, L.run.push rfl, fun d hd => ?_, ?_, fun j c' hj ht => ?_⟩
  · rcases L.ths m z hmz with q | ⟨j, c', q1, q2, q3, q4, q5, q6, q7⟩
    · exact .inl q
    · by_cases e : me = m
      · subst e
        rw [hz] at hmz
        have hkj : k = j := by have := Option.some.inj hmz; omega
        subst hkj
        refine .inr ⟨k, c', q1, q2, q3, q4, q5, fun _ => ⟨⟨k, i, c.era, clOp c, doA g (clOp c)⟩, by simp, rfl, ?_⟩, fun q => ?_⟩
        · rw [List.getElem?_set, if_pos rfl, if_pos (by rw [L.ul]; exact hm)]
        · rw [List.getElem?_set, if_pos rfl, if_pos (by rw [L.ol]; exact hm)] at q
          cases q
      · refine .inr ⟨j, c', q1, q2, q3, q4, q5, fun q => ?_, fun q d hd => ?_⟩
        · rw [List.getElem?_set, if_neg e] at q
          obtain ⟨d, r1, r2, r3⟩ := q6 q
          exact ⟨d, List.mem_append_left _ r1, r2, by rw [List.getElem?_set, if_neg e]; exact r3⟩
        · rw [List.getElem?_set, if_neg e] at q
          rcases List.mem_append.1 hd with r | r
          · exact q7 q d r
          · rw [List.mem_singleton] at r; subst r
            show k ≠ j
            intro e2
            subst e2
            rw [hc] at q2; cases q2
            rw [hk.1] at q3; omega
  · rcases List.mem_append.1 hd with r | r
    · obtain ⟨c', q1, q2, q3, q4, q5, q6⟩ := L.dok d r
      exact ⟨c', q1, q2, q3, q4, by omega, q6⟩
    · rw [List.mem_singleton] at r; subst r
      exact ⟨c, hc, rfl, rfl, hok.fr.2, by show i < i + 1; omega, fun q => by have := hk.2.2.1; omega⟩
  · rw [List.pairwise_append]
    refine ⟨L.dpw, List.pairwise_singleton _ _, fun a ha b hb => ?_⟩
    rw [List.mem_singleton] at hb; subst hb
    obtain ⟨c', q1, q2, q3, q4, q5, q6⟩ := L.dok a ha
    have := (L.ok c' (List.mem_of_getElem? q1)).e
    exact ⟨q5, hk.2.2.2 a ha, by show a.e ≤ c.era; omega⟩
  · obtain ⟨d, r1, r2⟩ := L.all j c' hj ht
    exact ⟨d, List.mem_append_left _ r1, r2⟩
theorem doA_err {o : Gr.Op} (hk : 11 ≤ o.k ∧ o.k ≤ 16) (hu : 0 ≤ o.u ∧ o.u ≤ 2) (hv : 0 ≤ o.v ∧ o.v ≤ 2) (g : List Arc) : ((doA g o).err = 0 ∨ (doA g o).err = 5) ∧ (doA g o).list = [] := by
  have h1 : Gr.isV o.u = true := by unfold Gr.isV; exact decide_eq_true (by omega)
  have h2 : Gr.isV o.v = true := by unfold Gr.isV; exact decide_eq_true (by omega)
  have h3 : keysB o = true := by unfold keysB; rw [h1, h2]; split <;> rfl
  unfold doA
  rw [if_neg (by omega), if_neg (by rw [h3]; decide)]
  split
  · exact ⟨.inl rfl, rfl⟩
  · split
    · exact ⟨.inl rfl, rfl⟩
    · rw [if_neg (by omega)]
      split
      · exact ⟨.inl rfl, rfl⟩
      · split
        · exact ⟨.inr rfl, rfl⟩
        · exact ⟨.inl rfl, rfl⟩
theorem Live.answer {i era : Int} {h : List Cl} {g : List Arc} {ats : List Int} {ov : List Bool} {outs : List Ans} {dn : List Dn} (L : Live i era h g ats ov outs dn) {me k : Nat} {c : Cl} {an : Ans} (hm : me < 3) (hz : ats[me]? = some (k : Int)) (hc : h[k]? = some c) (ho : ov[me]? = some true) (hu : outs[me]? = some an) {A : Option Addr} {cap : Nat} :
    an.list = [] ∧ Live (i + 1) era (h.set k (⟨c.me, c.k, c.u, c.v, c.x, c.era, c.fr, i, an.err, an.is, an.n, an.w, an.list, A, cap⟩ : Cl)) g (ats.set me (-1)) ov outs dn := by
  have hk : c.me = (me : Int) ∧ c.era = era ∧ c.to = -1 ∧ ∃ d ∈ dn, d.k = k ∧ d.an = an := by
    rcases L.ths me _ hz with q | ⟨j, c', q1, q2, q3, q4, q5, q6, q7⟩
    · omega
    · obtain rfl : k = j := by omega
      rw [hc] at q2; cases q2
      obtain ⟨d, r1, r2, r3⟩ := q6 ho
      rw [hu] at r3
      exact ⟨q3, q4, q5, d, r1, r2, (Option.some.inj r3).symm⟩
  obtain ⟨hk1, hk2, hk3, d0, hd1, hd2, hd3⟩ := hk
  have hok := L.ok c (List.mem_of_getElem? hc)
  have hkl := (List.getElem?_eq_some_iff.1 hc).1
  have hdok : d0.o = clOp c ∧ c.fr < d0.t ∧ d0.t < i := by
    obtain ⟨c', q1, q2, q3, q4, q5, _⟩ := L.dok d0 hd1
    rw [hd2, hc] at q1; cases q1
    exact ⟨q2, q4, q5⟩
  have hgen : ∀ (ds : List Dn) (g0 g1 : List Arc), DoneRun g0 ds g1 → ∀ d ∈ ds, ∃ g', d.an = doA g' d.o := by
    intro ds
    induction ds with
    | nil => intro g0 g1 _ d hd; cases hd
    | cons a ds ih =>
      intro g0 g1 hr d hd
      rcases List.mem_cons.1 hd with rfl | hd
      · exact ⟨g0, hr.1⟩
      · exact ih _ _ hr.2 d hd
  have herr : (an.err = 0 ∨ an.err = 5) ∧ an.list = [] := by
    obtain ⟨g', hg'⟩ := hgen dn [] g L.run d0 hd1
    rw [← hd3, hg', hdok.1]
    exact doA_err hok.k hok.u hok.v g'
  refine ⟨herr.2, ?_⟩
  have hcase : ∀ (j : Nat) (a : Cl), (h.set k (⟨c.me, c.k, c.u, c.v, c.x, c.era, c.fr, i, an.err, an.is, an.n, an.w, an.list, A, cap⟩ : Cl))[j]? = some a → (j ≠ k ∧ h[j]? = some a) ∨ (j = k ∧ a = (⟨c.me, c.k, c.u, c.v, c.x, c.era, c.fr, i, an.err, an.is, an.n, an.w, an.list, A, cap⟩ : Cl)) := fun j a hj => by
    rw [List.getElem?_set] at hj
    split at hj
    · rename_i e
      exact .inr ⟨e.symm, (Option.some.inj hj).symm⟩
    · rename_i e
      exact .inl ⟨fun q => e q.symm, hj⟩
  have hsame : (h.set k (⟨c.me, c.k, c.u, c.v, c.x, c.era, c.fr, i, an.err, an.is, an.n, an.w, an.list, A, cap⟩ : Cl))[k]? = some (⟨c.me, c.k, c.u, c.v, c.x, c.era, c.fr, i, an.err, an.is, an.n, an.w, an.list, A, cap⟩ : Cl) := by
    rw [List.getElem?_set, if_pos rfl, if_pos hkl]
  have hother : ∀ (j : Nat) (a : Cl), j ≠ k → h[j]? = some a → (h.set k (⟨c.me, c.k, c.u, c.v, c.x, c.era, c.fr, i, an.err, an.is, an.n, an.w, an.list, A, cap⟩ : Cl))[j]? = some a := fun j a hj ha => by
    rw [List.getElem?_set, if_neg (fun e => hj e.symm)]; exact ha
  refine ⟨by rw [List.length_set]; exact L.len, by rw [List.length_set]; exact L.al, L.ol, L.ul, fun a ha => ?_, fun j j' a b hjj ha hb => ?_, fun j a hj ht hae => ?_, fun m z hmz => ?_, L.run, fun d hd => ?_, L.dpw, fun j a hj ht => ?_⟩
  · obtain ⟨j, hj, hja⟩ := List.getElem_of_mem ha
    rcases hcase j a (by rw [List.getElem?_eq_getElem hj, hja]) with ⟨_, q⟩ | ⟨_, rfl⟩
    · exact (L.ok a (List.mem_of_getElem? q)).later (by omega) (Int.le_refl _)
    · exact ⟨hok.k, hok.me, hok.u, hok.v, hok.x, hok.e, by have := hok.fr; show 0 ≤ c.fr ∧ c.fr < i + 1; omega, .inr ⟨by have := hok.fr; show c.fr < i; omega, by show i < i + 1; omega, herr.1⟩, herr.2⟩
  · rcases hcase j' b hb with ⟨_, q⟩ | ⟨rfl, rfl⟩
    · rcases hcase j a ha with ⟨_, r⟩ | ⟨rfl, rfl⟩
      · exact L.fits j j' a b hjj r q
      · have h0 := of_decide_eq_true (L.fits j j' c b hjj hc q)
        have hbe := (L.ok b (List.mem_of_getElem? q)).e
        unfold fitsB
        refine decide_eq_true ⟨h0.1, h0.2.1, fun (e : c.era < b.era) => by omega, fun (e : c.era = b.era) => ?_⟩
        rcases h0.2.2.2 e with r | r
        · exact .inl r
        · omega
    · rcases hcase j a ha with ⟨_, r⟩ | ⟨rfl, rfl⟩
      · exact L.fits j j' a c hjj r hc
      · omega
  · rcases hcase j a hj with ⟨hne, q⟩ | ⟨_, rfl⟩
    · have h1 := L.opens j a q ht hae
      rw [List.getElem?_set]
      split
      · rename_i e
        rw [← e, hz] at h1
        have := Option.some.inj h1
        omega
      · exact h1
    · have h1 : i < 0 := ht
      have := hok.fr
      omega
  · rw [List.getElem?_set] at hmz
    split at hmz
    · rename_i e
      rw [if_pos (by rw [L.al]; exact hm)] at hmz
      exact .inl (Option.some.inj hmz).symm
    · rename_i e
      rcases L.ths m z hmz with q | ⟨j, c', q1, q2, q3, q4, q5, q6, q7⟩
      · exact .inl q
      · refine .inr ⟨j, c', q1, hother j c' (fun e2 => ?_) q2, q3, q4, q5, q6, q7⟩
        subst e2
        rw [hc] at q2; cases q2
        exact e (by omega)
  · obtain ⟨c', q1, q2, q3, q4, q5, q6⟩ := L.dok d hd
    by_cases e : d.k = k
    · rw [e, hc] at q1; cases q1
      have hdd : d = d0 := by
        have hp := L.dpw
        obtain ⟨x, hx, rfl⟩ := List.getElem_of_mem hd
        obtain ⟨y, hy, rfl⟩ := List.getElem_of_mem hd1
        have hp2 := List.pairwise_iff_getElem.1 hp
        rcases Nat.lt_trichotomy x y with r | r | r
        · exact absurd (e.trans hd2.symm) (hp2 x y hx hy r).2.1
        · subst r; rfl
        · exact absurd (hd2.trans e.symm) (hp2 y x hy hx r).2.1
      refine ⟨(⟨c.me, c.k, c.u, c.v, c.x, c.era, c.fr, i, an.err, an.is, an.n, an.w, an.list, A, cap⟩ : Cl), by rw [e]; exact hsame, q2, q3, q4, by omega, fun _ => ?_⟩
      rw [hdd, hd3]
      exact ⟨hdok.2.2, rfl, rfl, rfl, rfl⟩
    · exact ⟨c', hother _ _ e q1, q2, q3, q4, by omega, q6⟩
  · rcases hcase j a hj with ⟨_, q⟩ | ⟨rfl, rfl⟩
    · exact L.all j a q ht
    · exact ⟨d0, hd1, hd2⟩
/-! ### what is so at the end -/
theorem Live.hist {i era : Int} {h : List Cl} {g : List Arc} {ats : List Int} {ov : List Bool} {outs : List Ans} {dn : List Dn} (L : Live i era h g ats ov outs dn) (_hi : i ≤ 1000000) : HistIn h := by
  refine ⟨fun j b hb => ⟨?_, fun k a hk ha => L.fits k j a b hk ha hb⟩, L.len, fun c hc => ?_⟩
  · have hok := L.ok b (List.mem_of_getElem? hb)
    have h1 := hok.k
    have h2 := hok.me
    have h3 := hok.e
    have h4 := hok.fr
    have h5 := hok.to'
    unfold mayB
    exact decide_eq_true (by omega)
  · have hok := L.ok c hc
    have h1 := hok.k
    have h3 := hok.u
    have h4 := hok.v
    exact ⟨by omega, by omega, by omega, hok.x⟩
theorem Live.not17 {i era : Int} {h : List Cl} {g : List Arc} {ats : List Int} {ov : List Bool} {outs : List Ans} {dn : List Dn} (L : Live i era h g ats ov outs dn) : ∀ c ∈ h, c.k ≠ 17 := fun c hc => by have := (L.ok c hc).k; omega
theorem okc_pt1 {i era : Int} {c : Cl} (h : OkC i era c) : (c.to = -1 ∧ openB c = true ∧ pt1 c = (if asksB c.k then [] else [ptOpen c])) ∨ (0 ≤ c.to ∧ openB c = false ∧ pt1 c = [ptPlain c]) := by
  have h4 := h.fr
  rcases h.to' with ⟨h1, h2⟩ | ⟨h1, _, h2⟩
  · have ho : openB c = true := decide_eq_true (by omega)
    have hi : idleB c = false := decide_eq_false (by omega)
    refine .inl ⟨h1, ho, ?_⟩
    unfold pt1
    rw [ho, hi, Bool.or_false, Bool.true_and, if_pos rfl]
  · have ho : openB c = false := decide_eq_false (by omega)
    have hi : idleB c = false := decide_eq_false (by omega)
    refine .inr ⟨by omega, ho, ?_⟩
    unfold pt1
    rw [ho, hi]
    simp
/-- The points of the calls that are done, in their moments' order. -/
def dpt (h : List Cl) (d : Dn) : List Pt := match h[d.k]? with | some c => pt1 c | none => []
theorem dpt_at {h : List Cl} {d : Dn} {c : Cl} (hc : h[d.k]? = some c) : dpt h d = pt1 c := by unfold dpt; rw [hc]
theorem dpt_one (h : List Cl) (d : Dn) : (dpt h d).length ≤ 1 := by
  unfold dpt
  split
  · exact pt1_one _
  · simp
def donePts (h : List Cl) (dn : List Dn) : List Pt := dn.flatMap (dpt h)
theorem mem_done {h : List Cl} {dn : List Dn} {p : Pt} : p ∈ donePts h dn ↔ ∃ d ∈ dn, ∃ c, h[d.k]? = some c ∧ p ∈ pt1 c := by
  unfold donePts
  rw [List.mem_flatMap]
  constructor
  · rintro ⟨d, hd, hp⟩
    cases hc : h[d.k]? with
    | none => unfold dpt at hp; rw [hc] at hp; cases hp
    | some c => rw [dpt_at hc] at hp; exact ⟨d, hd, c, hc, hp⟩
  · rintro ⟨d, hd, c, hc, hp⟩
    exact ⟨d, hd, by rw [dpt_at hc]; exact hp⟩
theorem done_fits {i era : Int} {h : List Cl} (ok : ∀ c ∈ h, OkC i era c) : ∀ (dn : List Dn) (g0 g : List Arc), DoneRun g0 dn g → (∀ d ∈ dn, ∃ c, h[d.k]? = some c ∧ d.o = clOp c ∧ (0 ≤ c.to → c.err = d.an.err ∧ c.is = d.an.is ∧ c.n = d.an.n ∧ c.w = d.an.w)) → Fits g0 (donePts h dn) ∧ foldG g0 (donePts h dn) = g
  | [], g0, g, hr, _ => by
    have : g = g0 := hr
    subst this
    exact ⟨trivial, rfl⟩
  | d :: dn, g0, g, hr, hd => by
    obtain ⟨c, hc, hop, ha⟩ := hd d (List.mem_cons_self ..)
    have ih := done_fits ok dn _ g hr.2 (fun d' h' => hd d' (List.mem_cons_of_mem _ h'))
    have hcons : donePts h (d :: dn) = pt1 c ++ donePts h dn := by
      unfold donePts
      rw [List.flatMap_cons, dpt_at hc]
    rw [hcons, fits_append, foldG_append]
    have hoc := ok c (List.mem_of_getElem? hc)
    rcases okc_pt1 hoc with ⟨ht, ho, hp⟩ | ⟨ht, ho, hp⟩
    · rw [hp]
      by_cases hask : asksB c.k = true
      · rw [if_pos hask]
        have hst : doG g0 d.o = g0 := still_do (by
          rw [hop]
          show turnsB c.k = false
          unfold asksB at hask
          have := of_decide_eq_true hask
          unfold turnsB
          exact decide_eq_false (by omega))
        rw [hst] at ih
        exact ⟨⟨trivial, ih.1⟩, ih.2⟩
      · rw [if_neg hask]
        have e1 : foldG g0 [ptOpen c] = doG g0 d.o := by rw [hop]; rfl
        rw [e1]
        refine ⟨⟨⟨fun q => (by cases q), trivial⟩, ih.1⟩, ih.2⟩
    · rw [hp]
      have e1 : foldG g0 [ptPlain c] = doG g0 d.o := by rw [hop]; rfl
      rw [e1]
      refine ⟨⟨⟨fun _ => ?_, trivial⟩, ih.1⟩, ih.2⟩
      obtain ⟨a1, a2, a3, a4⟩ := ha ht
      have e2 : doA g0 (opOf (ptPlain c)) = d.an := by rw [hr.1, hop]; rfl
      rw [e2]
      unfold fitR
      exact decide_eq_true ⟨a1, a2, .inr ⟨a4, a3⟩⟩
theorem pts1_sorted {h : List Cl} {P : Pt → Pt → Prop} (hp : h.Pairwise fun a b => ∀ p ∈ pt1 a, ∀ q ∈ pt1 b, P p q) : (h.flatMap pt1).Pairwise P := by
  rw [List.pairwise_flatMap]
  exact ⟨fun c _ => pw_one (pt1_one c), hp⟩
theorem Live.frs {i era : Int} {h : List Cl} {g : List Arc} {ats : List Int} {ov : List Bool} {outs : List Ans} {dn : List Dn} (L : Live i era h g ats ov outs dn) {j k : Nat} {a b : Cl} (ha : h[j]? = some a) (hb : h[k]? = some b) (hjk : j ≠ k) : a.fr ≠ b.fr := by
  rcases Nat.lt_or_gt_of_ne hjk with q | q
  · have := (of_decide_eq_true (L.fits j k a b q ha hb)).1; omega
  · have := (of_decide_eq_true (L.fits k j b a q hb ha)).1; omega
theorem Live.ends {i era : Int} {h : List Cl} {g : List Arc} {ats : List Int} {ov : List Bool} {outs : List Ans} {dn : List Dn} (L : Live i era h g ats ov outs dn) : Ends h [] g := by
  have h17 := L.not17
  unfold Ends
  rw [listed1 h17, points1 h17]
  refine ⟨?_, ?_⟩
  · rw [Bool.not_eq_true', List.any_eq_false]
    intro c hc
    unfold li1
    rw [(L.ok c hc).nil]; simp
  · have hf := done_fits L.ok dn [] g L.run (fun d hd => by
      obtain ⟨c, q1, q2, _, _, _, q6⟩ := L.dok d hd
      exact ⟨c, q1, q2, fun q => (q6 q).2⟩)
    have hpw : h.Pairwise fun a b => a.fr < b.fr ∧ a.era ≤ b.era := by
      rw [List.pairwise_iff_getElem]
      intro j k hj hk hjk
      have := of_decide_eq_true (L.fits j k _ _ hjk (List.getElem?_eq_getElem hj) (List.getElem?_eq_getElem hk))
      exact ⟨this.1, this.2.1⟩
    rw [← hf.2]
    refine chain_line _ (Nat.le_refl _) ?_ ?_ ⟨fun p hp => ?_, ?_, fun p hp hm => ?_, ?_, ?_, hf.1⟩
    · rw [List.nodup_iff_pairwise_ne]
      refine pts1_sorted (hpw.imp fun {a b} hab p hp q hq e => ?_)
      subst e
      have h1 := (pt1_fr hp).1
      have h2 := (pt1_fr hq).1
      omega
    · refine pts1_sorted (hpw.imp fun {a b} hab p hp q hq => ?_)
      rw [(pt1_fr hp).2.1, (pt1_fr hq).2.1]; exact hab.2
    · obtain ⟨d, hd, c, hc, hp⟩ := mem_done.1 hp
      exact List.mem_flatMap.2 ⟨c, List.mem_of_getElem? hc, hp⟩
    · unfold donePts
      rw [List.pairwise_flatMap]
      refine ⟨fun d _ => pw_one (dpt_one h d), L.dpw.imp_of_mem fun {a b} ha hb hab p hp q hq e => ?_⟩
      obtain ⟨c, q1, _⟩ := L.dok a ha
      obtain ⟨c', r1, _⟩ := L.dok b hb
      rw [dpt_at q1] at hp
      rw [dpt_at r1] at hq
      subst e
      exact L.frs q1 r1 hab.2.1 ((pt1_fr hp).1.symm.trans (pt1_fr hq).1)
    · obtain ⟨c, hc, hpc⟩ := List.mem_flatMap.1 hp
      obtain ⟨k, hk, hkc⟩ := List.getElem_of_mem hc
      have hck : h[k]? = some c := by rw [List.getElem?_eq_getElem hk, hkc]
      obtain ⟨he, ho⟩ := pt1_must hpc hm
      have hto : 0 ≤ c.to := by
        rcases okc_pt1 (L.ok c hc) with ⟨_, q, _⟩ | ⟨q, _, _⟩
        · rw [q] at ho; cases ho
        · exact q
      obtain ⟨d, hd, hdk⟩ := L.all k c hck hto
      exact mem_done.2 ⟨d, hd, c, by rw [hdk]; exact hck, hpc⟩
    · unfold donePts
      rw [List.pairwise_flatMap]
      refine ⟨fun d _ => pw_one (dpt_one h d), L.dpw.imp_of_mem fun {a b} ha hb hab p hp q hq => ?_⟩
      obtain ⟨c, q1, _, q3, _⟩ := L.dok a ha
      obtain ⟨c', r1, _, r3, _⟩ := L.dok b hb
      rw [dpt_at q1] at hp
      rw [dpt_at r1] at hq
      rw [(pt1_fr hp).2.1, (pt1_fr hq).2.1, ← q3, ← r3]
      exact hab.2.2
    · unfold donePts
      rw [List.pairwise_flatMap]
      refine ⟨fun d _ => pw_one (dpt_one h d), L.dpw.imp_of_mem fun {a b} ha hb hab p hp q hq _ => ?_⟩
      obtain ⟨c, q1, _, _, q4, _⟩ := L.dok a ha
      obtain ⟨c', r1, _, _, _, _, r6⟩ := L.dok b hb
      rw [dpt_at q1] at hp
      rw [dpt_at r1] at hq
      rintro ⟨hm, h0, hlt⟩
      obtain ⟨rfl, ho⟩ := pt1_must hq hm
      have h1 : (ptPlain c').to = c'.to := rfl
      have h2 := r6 (by omega)
      have h3 := (pt1_fr hp).1
      have h4 := hab.1
      omega
end Go.Proofs.YtpdfmfkoopdfgaaGreatDoor
end
section
namespace Go.Proofs.YtpdfmfkoopdfgaaGreatDoor
set_option maxRecDepth 100000
open Go.RowKit Aid Gr Hs LinP HeapP

theorem Laters.refl {ps : List Pt} (h : ∀ p ∈ ps, p.must = true → 0 ≤ p.to) : Laters ps ps := ⟨rfl, fun i => by
  rcases Nat.lt_or_ge i ps.length with q | q
  · exact Later.refl (h _ (ptAt_mem q))
  · have : ptAt ps i = ptD := by
      unfold ptAt
      rw [List.getD_eq_getElem?_getD, List.getElem?_eq_none q]; rfl
    rw [this]; exact ptD_later⟩
theorem ptAt_append {ps qs : List Pt} {i : Nat} : ptAt (ps ++ qs) i = if i < ps.length then ptAt ps i else ptAt qs (i - ps.length) := by
  unfold ptAt
  split
  · rename_i h
    rw [List.getD_eq_getElem?_getD, List.getElem?_append_left h, List.getD_eq_getElem?_getD]
  · rename_i h
    rw [List.getD_eq_getElem?_getD, List.getElem?_append_right (by omega), List.getD_eq_getElem?_getD]
theorem Laters.append {a b c d : List Pt} (h : Laters a b) (k : Laters c d) : Laters (a ++ c) (b ++ d) := ⟨by rw [List.length_append, List.length_append, h.len, k.len], fun i => by
  rw [ptAt_append, ptAt_append, ← h.len]
  split
  · exact h.at' i
  · exact k.at' _⟩
/-- The same call, answered later. -/
def later (c : Cl) (by' : Int) : Cl := if 0 ≤ c.to then ⟨c.me, c.k, c.u, c.v, c.x, c.era, c.fr, c.to + by', c.err, c.is, c.n, c.w, c.list, c.A, c.cap⟩ else c
theorem later_k (c : Cl) (y : Int) : (later c y).k = c.k := by unfold later; split <;> rfl
theorem later_open {c : Cl} {y : Int} (hy : 0 ≤ y) : openB (later c y) = openB c ∧ idleB (later c y) = idleB c ∧ (later c y).list = c.list := by
  unfold later
  split
  · rename_i h
    refine ⟨?_, ?_, rfl⟩
    · unfold openB
      simp only [decide_eq_decide]
      constructor <;> (rintro (q | q) <;> first | omega | exact .inr q)
    · unfold idleB
      simp only [decide_eq_decide]
      constructor <;> (rintro ⟨q1, q2⟩; exact ⟨by omega, q2⟩)
  · exact ⟨rfl, rfl, rfl⟩
theorem later_pt1 {c : Cl} {y : Int} (hy : 0 ≤ y) : Laters (pt1 c) (pt1 (later c y)) := by
  obtain ⟨h1, h2, _⟩ := later_open (c := c) hy
  have h3 := later_k c y
  unfold pt1
  rw [h1, h2, h3]
  split
  · exact Laters.refl (fun p hp => by cases hp)
  · split
    · have e : ptOpen (later c y) = ptOpen c := by unfold later; split <;> rfl
      rw [e]
      exact Laters.refl (fun p hp hm => by rw [List.mem_singleton] at hp; subst hp; cases hm)
    · rename_i h4
      have h5 : 0 ≤ c.to := by
        have : ¬ openB c = true := h4
        unfold openB at this
        have := fun q => this (decide_eq_true q)
        by_cases q : 0 ≤ c.to
        · exact q
        · exact absurd (Or.inl (by omega)) this
      have e : later c y = ⟨c.me, c.k, c.u, c.v, c.x, c.era, c.fr, c.to + y, c.err, c.is, c.n, c.w, c.list, c.A, c.cap⟩ := by unfold later; rw [if_pos h5]
      rw [e]
      refine ⟨rfl, fun i => ?_⟩
      rcases i with _ | i
      · exact ⟨rfl, fun _ => ⟨h5, by show c.to ≤ c.to + y; omega⟩⟩
      · exact ptD_later
theorem pt1_low {c : Cl} {p : Pt} (h : p ∈ pt1 c) (hm : p.must = true) : 0 ≤ p.to := by
  obtain ⟨rfl, ho⟩ := pt1_must h hm
  show 0 ≤ c.to
  have := of_decide_eq_false ho
  omega
theorem laters_set : ∀ (l : List Cl) {q : Nat} {c : Cl} {y : Int}, 0 ≤ y → l[q]? = some c → Laters (l.flatMap pt1) ((l.set q (later c y)).flatMap pt1)
  | [], q, c, y, _, h => by simp at h
  | p :: l, 0, c, y, hy, h => by
    obtain rfl : p = c := by simpa using h
    rw [List.set_cons_zero, List.flatMap_cons, List.flatMap_cons]
    exact (later_pt1 hy).append (Laters.refl fun r hr hm => by
      obtain ⟨x, _, hx⟩ := List.mem_flatMap.1 hr
      exact pt1_low hx hm)
  | p :: l, q + 1, c, y, hy, h => by
    rw [List.set_cons_succ, List.flatMap_cons, List.flatMap_cons]
    exact (Laters.refl fun r hr hm => pt1_low hr hm).append (laters_set l hy (by simpa using h))
theorem mem_set' {α : Type} {l : List α} {q : Nat} {x a : α} (h : a ∈ l.set q x) : a ∈ l ∨ a = x := List.mem_or_eq_of_mem_set h
/-- Where a history has an order, it has one still if a call's answer comes later. -/
theorem wider_later {l : List Cl} (h17 : ∀ c ∈ l, c.k ≠ 17) {q : Nat} {c : Cl} {y : Int} (hy : 0 ≤ y) (hc : l[q]? = some c) {g g' : List Arc} (h : Ends l g g') : Ends (l.set q (later c y)) g g' := by
  have hcm := List.mem_of_getElem? hc
  have h17' : ∀ c' ∈ l.set q (later c y), c'.k ≠ 17 := fun c' hc' => by
    rcases mem_set' hc' with r | r
    · exact h17 c' r
    · subst r; rw [later_k]; exact h17 c hcm
  unfold Ends at h ⊢
  rw [listed1 h17, points1 h17] at h
  rw [listed1 h17', points1 h17']
  refine ⟨?_, later_chain h.2 (laters_set l hy hc)⟩
  have h1 := h.1
  rw [Bool.not_eq_true', List.any_eq_false] at h1 ⊢
  intro c' hc'
  rcases mem_set' hc' with r | r
  · exact h1 c' r
  · subst r
    have := h1 c hcm
    obtain ⟨e1, e2, e3⟩ := later_open (c := c) hy
    unfold li1 at this ⊢
    rw [e1, e2, e3]; exact this
/-- One more open call at the end. -/
theorem wider_open {l : List Cl} (h17 : ∀ c ∈ l, c.k ≠ 17) {x : Cl} (hx : x.k ≠ 17) (ho : openB x = true) (hi : idleB x = false) {g g' : List Arc} (h : Ends l g g') : Ends (l ++ [x]) g g' := by
  have h17' : ∀ c' ∈ l ++ [x], c'.k ≠ 17 := fun c' hc' => by
    rcases List.mem_append.1 hc' with r | r
    · exact h17 c' r
    · rw [List.mem_singleton] at r; subst r; exact hx
  unfold Ends at h ⊢
  rw [listed1 h17, points1 h17] at h
  rw [listed1 h17', points1 h17']
  constructor
  · have h1 := h.1
    rw [Bool.not_eq_true', List.any_eq_false] at h1 ⊢
    intro c' hc'
    rcases List.mem_append.1 hc' with r | r
    · exact h1 c' r
    · rw [List.mem_singleton] at r; subst r
      unfold li1
      rw [ho]; simp
  · rw [List.flatMap_append]
    have e : [x].flatMap pt1 = pt1 x := by simp
    rw [e]
    unfold pt1
    rw [ho, hi, Bool.or_false, Bool.true_and]
    split
    · rw [List.append_nil]; exact h.2
    · exact chain_open h.2 rfl
/-- A call behind, in a later era. -/
theorem ends_behind {l : List Cl} (h17 : ∀ c ∈ l, c.k ≠ 17) {x : Cl} (hx : x.k ≠ 17) (he : ∀ c ∈ l, c.era < x.era) {g g' : List Arc} : Ends (l ++ [x]) g g' ↔ ∃ m, Ends l g m ∧ Ends [x] m g' := by
  have h17' : ∀ c' ∈ l ++ [x], c'.k ≠ 17 := fun c' hc' => by
    rcases List.mem_append.1 hc' with r | r
    · exact h17 c' r
    · rw [List.mem_singleton] at r; subst r; exact hx
  have h17x : ∀ c' ∈ [x], c'.k ≠ 17 := fun c' hc' => by rw [List.mem_singleton] at hc'; subst hc'; exact hx
  unfold Ends
  rw [listed1 h17', points1 h17', listed1 h17, points1 h17, listed1 h17x, points1 h17x, List.flatMap_append, List.any_append, Bool.not_or, Bool.and_eq_true]
  have hera : ∀ p ∈ l.flatMap pt1, ∀ q ∈ [x].flatMap pt1, p.era < q.era := fun p hp q hq => by
    obtain ⟨c, hc, hp⟩ := List.mem_flatMap.1 hp
    have hq1 : q ∈ pt1 x := by simpa using hq
    rw [(pt1_fr hp).2.1, (pt1_fr hq1).2.1]
    exact he c hc
  rw [chain_behind _ (Nat.le_refl _) hera]
  constructor
  · rintro ⟨⟨h1, h2⟩, m, h3, h4⟩
    exact ⟨m, ⟨h1, h3⟩, h2, h4⟩
  · rintro ⟨m, ⟨h1, h3⟩, h2, h4⟩
    exact ⟨⟨h1, h2⟩, m, h3, h4⟩
end Go.Proofs.YtpdfmfkoopdfgaaGreatDoor
end
