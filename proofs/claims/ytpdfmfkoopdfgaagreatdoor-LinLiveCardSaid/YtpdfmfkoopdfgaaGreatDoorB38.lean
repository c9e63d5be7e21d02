/- PLive, LLive0, LLive1, LLive2. -/
import Derived.Test.YtpdfmfkoopdfgaaGreatDoorB34
import Derived.Test.YtpdfmfkoopdfgaaGreatDoorB37
import Derived.Test.YtpdfmfkoopdfgaaGreatDoorB33
set_option linter.unusedVariables false
set_option linter.unusedSimpArgs false
section
namespace Go.Proofs.YtpdfmfkoopdfgaaGreatDoor
set_option maxRecDepth 100000
open Go.RowKit Aid Gr Hs LinP HeapP

/-! ### calls of kinds other than 17: points and lists without regard to keys -/
def pt1 (c : Cl) : List Pt := if ((openB c && asksB c.k) || idleB c) = true then [] else if openB c = true then [ptOpen c] else [ptPlain c]
theorem pts1 {c : Cl} (h : c.k ≠ 17) (keys : List Int) : ptsOf c keys = pt1 c := by
  unfold ptsOf pt1
  rw [if_pos h]
theorem points1 {l : List Cl} (h : ∀ c ∈ l, c.k ≠ 17) : pointsOf l = l.flatMap pt1 := by
  unfold pointsOf pointsK
  generalize keysOf l = keys
  induction l with
  | nil => rfl
  | cons a l ih => rw [List.flatMap_cons, List.flatMap_cons, pts1 (h a (List.mem_cons_self ..)), ih (fun c hc => h c (List.mem_cons_of_mem _ hc))]
def li1 (c : Cl) : Bool := !openB c && !idleB c && !decide (c.list.length = 0)
theorem listed1 {l : List Cl} (h : ∀ c ∈ l, c.k ≠ 17) : listedB l = !l.any li1 := by
  unfold listedB
  generalize keysOf l = keys
  congr 1
  induction l with
  | nil => rfl
  | cons a l ih =>
    rw [List.any_cons, List.any_cons, ih (fun c hc => h c (List.mem_cons_of_mem _ hc))]
    congr 1
    unfold notListed Hs.listedB li1
    rw [if_pos (.inl (h a (List.mem_cons_self ..)))]
theorem pt1_one (c : Cl) : (pt1 c).length ≤ 1 := by
  unfold pt1
  split
  · simp
  · split <;> simp
theorem pw_one {α : Type} {P : α → α → Prop} : ∀ {l : List α}, l.length ≤ 1 → l.Pairwise P
  | [], _ => List.Pairwise.nil
  | [_], _ => List.pairwise_singleton _ _
  | _ :: _ :: _, h => by simp at h
theorem pt1_fr {c : Cl} {p : Pt} (h : p ∈ pt1 c) : p.fr = c.fr ∧ p.era = c.era ∧ opOf p = ⟨c.k, c.u, c.v, c.x⟩ := by
  unfold pt1 at h
  split at h
  · cases h
  · split at h <;> (rw [List.mem_singleton] at h; subst h; exact ⟨rfl, rfl, rfl⟩)
theorem pt1_must {c : Cl} {p : Pt} (h : p ∈ pt1 c) (hm : p.must = true) : p = ptPlain c ∧ openB c = false := by
  unfold pt1 at h
  split at h
  · cases h
  · split at h
    · rw [List.mem_singleton] at h; subst h; cases hm
    · rename_i h2
      rw [List.mem_singleton] at h
      exact ⟨h, by simpa using h2⟩
/-! ### threads that ask, are done at a moment, and are answered -/
/-- A call that is done: which, when, its era, its operation, its answer. -/
structure Dn where
  k : Nat
  t : Int
  e : Int
  o : Gr.Op
  an : Ans
def DoneRun : List Arc → List Dn → List Arc → Prop
  | g, [], g' => g' = g
  | g, d :: ds, g' => d.an = doA g d.o ∧ DoneRun (doG g d.o) ds g'
theorem DoneRun.push : ∀ {ds : List Dn} {g m : List Arc} {d : Dn}, DoneRun g ds m → d.an = doA m d.o → DoneRun g (ds ++ [d]) (doG m d.o)
  | [], g, m, d, h, h2 => by
    have : m = g := h
    subst this
    exact ⟨h2, rfl⟩
  | a :: ds, g, m, d, h, h2 => ⟨h.1, DoneRun.push h.2 h2⟩
def clOp (c : Cl) : Gr.Op := ⟨c.k, c.u, c.v, c.x⟩
/-- A call that may be, at a moment. -/
structure OkC (i era : Int) (c : Cl) : Prop where
  k : 11 ≤ c.k ∧ c.k ≤ 16
  me : 0 ≤ c.me ∧ c.me < 3
  u : 0 ≤ c.u ∧ c.u ≤ 2
  v : 0 ≤ c.v ∧ c.v ≤ 2
  x : 0 ≤ c.x ∧ c.x < 18446744073709551616
  e : 0 ≤ c.era ∧ c.era ≤ era
  fr : 0 ≤ c.fr ∧ c.fr < i
  to' : c.to = -1 ∧ c.err = 0 ∨ c.fr < c.to ∧ c.to < i ∧ (c.err = 0 ∨ c.err = 5)
  nil : c.list = []
structure Live (i era : Int) (h : List Cl) (g : List Arc) (ats : List Int) (ov : List Bool) (outs : List Ans) (dn : List Dn) : Prop where
  len : h.length ≤ 9
  al : ats.length = 3
  ol : ov.length = 3
  ul : outs.length = 3
  ok : ∀ c ∈ h, OkC i era c
  fits : ∀ (j k : Nat) (a b : Cl), j < k → h[j]? = some a → h[k]? = some b → fitsB a b = true
  opens : ∀ (k : Nat) (c : Cl), h[k]? = some c → c.to < 0 → c.era = era → ats[c.me.toNat]? = some (k : Int)
  ths : ∀ (me : Nat) (z : Int), ats[me]? = some z → z = -1 ∨ ∃ (k : Nat) (c : Cl), z = (k : Int) ∧ h[k]? = some c ∧ c.me = (me : Int) ∧ c.era = era ∧ c.to = -1 ∧ (ov[me]? = some true → ∃ d ∈ dn, d.k = k ∧ outs[me]? = some d.an) ∧ (ov[me]? = some false → ∀ d ∈ dn, d.k ≠ k)
  run : DoneRun [] dn g
  dok : ∀ d ∈ dn, ∃ c, h[d.k]? = some c ∧ d.o = clOp c ∧ d.e = c.era ∧ c.fr < d.t ∧ d.t < i ∧ (0 ≤ c.to → d.t < c.to ∧ c.err = d.an.err ∧ c.is = d.an.is ∧ c.n = d.an.n ∧ c.w = d.an.w)
  dpw : dn.Pairwise fun a b => a.t < b.t ∧ a.k ≠ b.k ∧ a.e ≤ b.e
  all : ∀ (k : Nat) (c : Cl), h[k]? = some c → 0 ≤ c.to → ∃ d ∈ dn, d.k = k
theorem OkC.later {i era : Int} {c : Cl} (h : OkC i era c) {i' era' : Int} (hi : i ≤ i') (he : era ≤ era') : OkC i' era' c := by
  obtain ⟨h1, h2, h3, h4, h5, h6, h7, h8, h9⟩ := h
  exact ⟨h1, h2, h3, h4, h5, by omega, by omega, by omega, h9⟩
theorem Live.start : Live 0 0 [] [] [-1, -1, -1] [false, false, false] [⟨0, false, 0, 0, []⟩, ⟨0, false, 0, 0, []⟩, ⟨0, false, 0, 0, []⟩] [] := by
  refine ⟨by simp, rfl, rfl, rfl, by simp, fun j k a b _ h => by simp at h, fun k c h => by simp at h, fun me z h => .inl ?_, rfl, by simp, List.Pairwise.nil, fun k c h => by simp at h⟩
  rcases me with _ | _ | _ | me <;> simp_all
theorem Live.skip {i era : Int} {h : List Cl} {g : List Arc} {ats : List Int} {ov : List Bool} {outs : List Ans} {dn : List Dn} (L : Live i era h g ats ov outs dn) : Live (i + 1) era h g ats ov outs dn :=
  ⟨L.len, L.al, L.ol, L.ul, fun c hc => (L.ok c hc).later (by omega) (Int.le_refl _), L.fits, L.opens, L.ths, L.run, fun d hd => by
    obtain ⟨c, q1, q2, q3, q4, q5, q6⟩ := L.dok d hd
    exact ⟨c, q1, q2, q3, q4, by omega, q6⟩, L.dpw, L.all⟩
theorem Live.crash {i era : Int} {h : List Cl} {g : List Arc} {ats : List Int} {ov : List Bool} {outs : List Ans} {dn : List Dn} (L : Live i era h g ats ov outs dn) : Live (i + 1) (era + 1) h g [-1, -1, -1] [false, false, false] outs dn :=
  ⟨L.len, rfl, rfl, L.ul, fun c hc => (L.ok c hc).later (by omega) (by omega), L.fits, fun k c hk _ he => by
    have := (L.ok c (List.mem_of_getElem? hk)).e
    omega, fun me z h => .inl (by rcases me with _ | _ | _ | me <;> simp_all), L.run, fun d hd => by
    obtain ⟨c, q1, q2, q3, q4, q5, q6⟩ := L.dok d hd
    exact ⟨c, q1, q2, q3, q4, by omega, q6⟩, L.dpw, L.all⟩
theorem Live.ask {i era : Int} {h : List Cl} {g : List Arc} {ats : List Int} {ov : List Bool} {outs : List Ans} {dn : List Dn} (L : Live i era h g ats ov outs dn) {me : Nat} (hm : me < 3) (hz : ats[me]? = some (-1)) (hl : h.length < 9) (hi : 0 ≤ i) (he : 0 ≤ era) {k u v x : Int} (hk : 11 ≤ k ∧ k ≤ 16) (hu : 0 ≤ u ∧ u ≤ 2) (hv : 0 ≤ v ∧ v ≤ 2) (hx : 0 ≤ x ∧ x < 18446744073709551616) {A : Option Addr} {cap : Nat} :
    Live (i + 1) era (h ++ [⟨me, k, u, v, x, era, i, -1, 0, false, 0, 0, [], A, cap⟩]) g (ats.set me (h.length : Int)) (ov.set me false) outs dn := by
  have hnew : (h ++ [(⟨me, k, u, v, x, era, i, -1, 0, false, 0, 0, [], A, cap⟩ : Cl)])[h.length]? = some ⟨me, k, u, v, x, era, i, -1, 0, false, 0, 0, [], A, cap⟩ := by simp
  have hold : ∀ (j : Nat) (c : Cl), h[j]? = some c → (h ++ [(⟨me, k, u, v, x, era, i, -1, 0, false, 0, 0, [], A, cap⟩ : Cl)])[j]? = some c := fun j c hj => by
    rw [List.getElem?_append_left (List.getElem?_eq_some_iff.1 hj).1]; exact hj
  have hcase : ∀ (j : Nat) (c : Cl), (h ++ [(⟨me, k, u, v, x, era, i, -1, 0, false, 0, 0, [], A, cap⟩ : Cl)])[j]? = some c → h[j]? = some c ∨ (j = h.length ∧ c = ⟨me, k, u, v, x, era, i, -1, 0, false, 0, 0, [], A, cap⟩) := fun j c hj => by
    rcases Nat.lt_or_ge j h.length with q | q
    · rw [List.getElem?_append_left q] at hj; exact .inl hj
    · have hlt := (List.getElem?_eq_some_iff.1 hj).1
      rw [List.length_append, List.length_singleton] at hlt
      obtain rfl : j = h.length := by omega
      rw [hnew] at hj
      exact .inr ⟨rfl, (Option.some.inj hj).symm⟩
  refine ⟨by simp; omega, by rw [List.length_set]; exact L.al, by rw [List.length_set]; exact L.ol, L.ul, fun c hc => ?_, fun j j' a b hjj ha hb => ?_, fun j c hj ht hce => ?_, fun m z hmz => ?_, L.run, fun d hd => ?_, L.dpw, fun j c hj ht => ?_⟩
  · rcases List.mem_append.1 hc with q | q
    · exact (L.ok c q).later (by omega) (Int.le_refl _)
    · rw [List.mem_singleton] at q; subst q
      exact ⟨hk, by show (0 : Int) ≤ (me : Int) ∧ (me : Int) < 3; omega, hu, hv, hx, by show 0 ≤ era ∧ era ≤ era; omega, by show 0 ≤ i ∧ i < i + 1; omega, .inl ⟨rfl, rfl⟩, rfl⟩
  · rcases hcase j' b hb with q | ⟨rfl, rfl⟩
    · rcases hcase j a ha with r | ⟨rfl, rfl⟩
      · exact L.fits j j' a b hjj r q
      · have := (List.getElem?_eq_some_iff.1 q).1; omega
    · rcases hcase j a ha with r | ⟨rfl, rfl⟩
      · have ho := L.ok a (List.mem_of_getElem? r)
        have h1 := ho.fr
        have h2 := ho.e
        have h3 := ho.to'
        unfold fitsB
        refine decide_eq_true ⟨by show a.fr < i; omega, by show a.era ≤ era; omega, fun _ => by show a.to < i; omega, fun hae => ?_⟩
        by_cases hme : a.me = (me : Int)
        · right
          by_cases ht : a.to < 0
          · have := L.opens j a r ht hae
            rw [hme, show ((me : Int)).toNat = me by omega, hz] at this
            have := Option.some.inj this
            omega
          · exact ⟨by omega, by show a.to < i; omega⟩
        · exact .inl hme
      · omega
  · rcases hcase j c hj with q | ⟨rfl, rfl⟩
    · have h1 := L.opens j c q ht hce
      have hmec := (L.ok c (List.mem_of_getElem? q)).me
      rw [List.getElem?_set]
      split
      · rename_i e
        rw [← e, hz] at h1
        have := Option.some.inj h1
        omega
      · exact h1
    · show (ats.set me (h.length : Int))[((me : Int)).toNat]? = _
      rw [show ((me : Int)).toNat = me by omega, List.getElem?_set, if_pos rfl, if_pos (by rw [L.al]; exact hm)]
  · rw [List.getElem?_set] at hmz
    split at hmz
    · rename_i e
      subst e
      rw [if_pos (by rw [L.al]; exact hm)] at hmz
      have := Option.some.inj hmz
      refine .inr ⟨h.length, _, this.symm, hnew, rfl, rfl, rfl, fun q => ?_, fun _ d hd => ?_⟩
      · rw [List.getElem?_set, if_pos rfl, if_pos (by rw [L.ol]; exact hm)] at q
        cases q
      · obtain ⟨c, q1, _⟩ := L.dok d hd
        have := (List.getElem?_eq_some_iff.1 q1).1
        omega
    · rename_i e
      rcases L.ths m z hmz with q | ⟨j, c, q1, q2, q3, q4, q5, q6, q7⟩
      · exact .inl q
      · refine .inr ⟨j, c, q1, hold j c q2, q3, q4, q5, fun q => q6 ?_, fun q => q7 ?_⟩
        · rw [List.getElem?_set, if_neg e] at q; exact q
        · rw [List.getElem?_set, if_neg e] at q; exact q
  · obtain ⟨c, q1, q2, q3, q4, q5, q6⟩ := L.dok d hd
    exact ⟨c, hold _ _ q1, q2, q3, q4, by omega, q6⟩
  · rcases hcase j c hj with q | ⟨rfl, rfl⟩
    · exact L.all j c q ht
    · have : (0 : Int) ≤ -1 := ht
      omega
theorem Live.doit {i era : Int} {h : List Cl} {g : List Arc} {ats : List Int} {ov : List Bool} {outs : List Ans} {dn : List Dn} (L : Live i era h g ats ov outs dn) {me k : Nat} {c : Cl} (hm : me < 3) (hz : ats[me]? = some (k : Int)) (hc : h[k]? = some c) (ho : ov[me]? = some false) :
    Live (i + 1) era h (doG g (clOp c)) ats (ov.set me true) (outs.set me (doA g (clOp c))) (dn ++ [⟨k, i, c.era, clOp c, doA g (clOp c)⟩]) := by
  have hk : c.me = (me : Int) ∧ c.era = era ∧ c.to = -1 ∧ ∀ d ∈ dn, d.k ≠ k := by
    rcases L.ths me _ hz with q | ⟨j, c', q1, q2, q3, q4, q5, q6, q7⟩
    · omega
    · obtain rfl : k = j := by omega
      rw [hc] at q2; cases q2
      exact ⟨q3, q4, q5, q7 ho⟩
  have hok := L.ok c (List.mem_of_getElem? hc)
  refine ⟨L.len, L.al, by rw [List.length_set]; exact L.ol, by rw [List.length_set]; exact L.ul, fun c hc => (L.ok c hc).later (by omega) (Int.le_refl _), L.fits, L.opens, fun m z hmz => ?_, L.run.push rfl, fun d hd => ?_, ?_, fun j c' hj ht => ?_⟩
  · rcases L.ths m z hmz with q | ⟨j, c', q1, q2, q3, q4, q5, q6, q7⟩
    · exact .inl q
    · by_cases e : me = m
      · subst e
        rw [hz] at hmz
        have hkj : k = j := by have := Option.some.inj hmz; omega
        subst hkj
        refine .inr ⟨k, c', q1, q2, q3, q4, q5, fun _ => ⟨⟨k, i, c.era, clOp c, doA g (clOp c)⟩, by simp, rfl, ?_⟩, fun q => ?_⟩
        · rw [List.getElem?_set, if_pos rfl, if_pos (by rw [L.ul]; exact hm)]
        · rw [List.getElem?_set, if_pos rfl, if_pos (by rw [L.ol]; exact hm)] at q
          cases q
      · refine .inr ⟨j, c', q1, q2, q3, q4, q5, fun q => ?_, fun q d hd => ?_⟩
        · rw [List.getElem?_set, if_neg e] at q
          obtain ⟨d, r1, r2, r3⟩ := q6 q
          exact ⟨d, List.mem_append_left _ r1, r2, by rw [List.getElem?_set, if_neg e]; exact r3⟩
        · rw [List.getElem?_set, if_neg e] at q
          rcases List.mem_append.1 hd with r | r
          · exact q7 q d r
          · rw [List.mem_singleton] at r; subst r
            show k ≠ j
            intro e2
            subst e2
            rw [hc] at q2; cases q2
            rw [hk.1] at q3; omega
  · rcases List.mem_append.1 hd with r | r
    · obtain ⟨c', q1, q2, q3, q4, q5, q6⟩ := L.dok d r
      exact ⟨c', q1, q2, q3, q4, by omega, q6⟩
    · rw [List.mem_singleton] at r; subst r
      exact ⟨c, hc, rfl, rfl, hok.fr.2, by show i < i + 1; omega, fun q => by have := hk.2.2.1; omega⟩
  · rw [List.pairwise_append]
    refine ⟨L.dpw, List.pairwise_singleton _ _, fun a ha b hb => ?_⟩
    rw [List.mem_singleton] at hb; subst hb
    obtain ⟨c', q1, q2, q3, q4, q5, q6⟩ := L.dok a ha
    have := (L.ok c' (List.mem_of_getElem? q1)).e
    exact ⟨q5, hk.2.2.2 a ha, by show a.e ≤ c.era; omega⟩
  · obtain ⟨d, r1, r2⟩ := L.all j c' hj ht
    exact ⟨d, List.mem_append_left _ r1, r2⟩
theorem doA_err {o : Gr.Op} (hk : 11 ≤ o.k ∧ o.k ≤ 16) (hu : 0 ≤ o.u ∧ o.u ≤ 2) (hv : 0 ≤ o.v ∧ o.v ≤ 2) (g : List Arc) : ((doA g o).err = 0 ∨ (doA g o).err = 5) ∧ (doA g o).list = [] := by
  have h1 : Gr.isV o.u = true := by unfold Gr.isV; exact decide_eq_true (by omega)
  have h2 : Gr.isV o.v = true := by unfold Gr.isV; exact decide_eq_true (by omega)
  have h3 : keysB o = true := by unfold keysB; rw [h1, h2]; split <;> rfl
  unfold doA
  rw [if_neg (by omega), if_neg (by rw [h3]; decide)]
  split
  · exact ⟨.inl rfl, rfl⟩
  · split
    · exact ⟨.inl rfl, rfl⟩
    · rw [if_neg (by omega)]
      split
      · exact ⟨.inl rfl, rfl⟩
      · split
        · exact ⟨.inr rfl, rfl⟩
        · exact ⟨.inl rfl, rfl⟩
theorem Live.answer {i era : Int} {h : List Cl} {g : List Arc} {ats : List Int} {ov : List Bool} {outs : List Ans} {dn : List Dn} (L : Live i era h g ats ov outs dn) {me k : Nat} {c : Cl} {an : Ans} (hm : me < 3) (hz : ats[me]? = some (k : Int)) (hc : h[k]? = some c) (ho : ov[me]? = some true) (hu : outs[me]? = some an) {A : Option Addr} {cap : Nat} :
    an.list = [] ∧ Live (i + 1) era (h.set k (⟨c.me, c.k, c.u, c.v, c.x, c.era, c.fr, i, an.err, an.is, an.n, an.w, an.list, A, cap⟩ : Cl)) g (ats.set me (-1)) ov outs dn := by
  have hk : c.me = (me : Int) ∧ c.era = era ∧ c.to = -1 ∧ ∃ d ∈ dn, d.k = k ∧ d.an = an := by
    rcases L.ths me _ hz with q | ⟨j, c', q1, q2, q3, q4, q5, q6, q7⟩
    · omega
    · obtain rfl : k = j := by omega
      rw [hc] at q2; cases q2
      obtain ⟨d, r1, r2, r3⟩ := q6 ho
      rw [hu] at r3
      exact ⟨q3, q4, q5, d, r1, r2, (Option.some.inj r3).symm⟩
  obtain ⟨hk1, hk2, hk3, d0, hd1, hd2, hd3⟩ := hk
  have hok := L.ok c (List.mem_of_getElem? hc)
  have hkl := (List.getElem?_eq_some_iff.1 hc).1
  have hdok : d0.o = clOp c ∧ c.fr < d0.t ∧ d0.t < i := by
    obtain ⟨c', q1, q2, q3, q4, q5, _⟩ := L.dok d0 hd1
    rw [hd2, hc] at q1; cases q1
    exact ⟨q2, q4, q5⟩
  have hgen : ∀ (ds : List Dn) (g0 g1 : List Arc), DoneRun g0 ds g1 → ∀ d ∈ ds, ∃ g', d.an = doA g' d.o := by
    intro ds
    induction ds with
    | nil => intro g0 g1 _ d hd; cases hd
    | cons a ds ih =>
      intro g0 g1 hr d hd
      rcases List.mem_cons.1 hd with rfl | hd
      · exact ⟨g0, hr.1⟩
      · exact ih _ _ hr.2 d hd
  have herr : (an.err = 0 ∨ an.err = 5) ∧ an.list = [] := by
    obtain ⟨g', hg'⟩ := hgen dn [] g L.run d0 hd1
    rw [← hd3, hg', hdok.1]
    exact doA_err hok.k hok.u hok.v g'
  refine ⟨herr.2, ?_⟩
  have hcase : ∀ (j : Nat) (a : Cl), (h.set k (⟨c.me, c.k, c.u, c.v, c.x, c.era, c.fr, i, an.err, an.is, an.n, an.w, an.list, A, cap⟩ : Cl))[j]? = some a → (j ≠ k ∧ h[j]? = some a) ∨ (j = k ∧ a = (⟨c.me, c.k, c.u, c.v, c.x, c.era, c.fr, i, an.err, an.is, an.n, an.w, an.list, A, cap⟩ : Cl)) := fun j a hj => by
    rw [List.getElem?_set] at hj
    split at hj
    · rename_i e
      exact .inr ⟨e.symm, (Option.some.inj hj).symm⟩
    · rename_i e
      exact .inl ⟨fun q => e q.symm, hj⟩
  have hsame : (h.set k (⟨c.me, c.k, c.u, c.v, c.x, c.era, c.fr, i, an.err, an.is, an.n, an.w, an.list, A, cap⟩ : Cl))[k]? = some (⟨c.me, c.k, c.u, c.v, c.x, c.era, c.fr, i, an.err, an.is, an.n, an.w, an.list, A, cap⟩ : Cl) := by
    rw [List.getElem?_set, if_pos rfl, if_pos hkl]
  have hother : ∀ (j : Nat) (a : Cl), j ≠ k → h[j]? = some a → (h.set k (⟨c.me, c.k, c.u, c.v, c.x, c.era, c.fr, i, an.err, an.is, an.n, an.w, an.list, A, cap⟩ : Cl))[j]? = some a := fun j a hj ha => by
    rw [List.getElem?_set, if_neg (fun e => hj e.symm)]; exact ha
  refine ⟨by rw [List.length_set]; exact L.len, by rw [List.length_set]; exact L.al, L.ol, L.ul, fun a ha => ?_, fun j j' a b hjj ha hb => ?_, fun j a hj ht hae => ?_, fun m z hmz => ?_, L.run, fun d hd => ?_, L.dpw, fun j a hj ht => ?_⟩
  · obtain ⟨j, hj, hja⟩ := List.getElem_of_mem ha
    rcases hcase j a (by rw [List.getElem?_eq_getElem hj, hja]) with ⟨_, q⟩ | ⟨_, rfl⟩
    · exact (L.ok a (List.mem_of_getElem? q)).later (by omega) (Int.le_refl _)
    · exact ⟨hok.k, hok.me, hok.u, hok.v, hok.x, hok.e, by have := hok.fr; show 0 ≤ c.fr ∧ c.fr < i + 1; omega, .inr ⟨by have := hok.fr; show c.fr < i; omega, by show i < i + 1; omega, herr.1⟩, herr.2⟩
  · rcases hcase j' b hb with ⟨_, q⟩ | ⟨rfl, rfl⟩
    · rcases hcase j a ha with ⟨_, r⟩ | ⟨rfl, rfl⟩
      · exact L.fits j j' a b hjj r q
      · have h0 := of_decide_eq_true (L.fits j j' c b hjj hc q)
        have hbe := (L.ok b (List.mem_of_getElem? q)).e
        unfold fitsB
        refine decide_eq_true ⟨h0.1, h0.2.1, fun (e : c.era < b.era) => by omega, fun (e : c.era = b.era) => ?_⟩
        rcases h0.2.2.2 e with r | r
        · exact .inl r
        · omega
    · rcases hcase j a ha with ⟨_, r⟩ | ⟨rfl, rfl⟩
      · exact L.fits j j' a c hjj r hc
      · omega
  · rcases hcase j a hj with ⟨hne, q⟩ | ⟨_, rfl⟩
    · have h1 := L.opens j a q ht hae
      rw [List.getElem?_set]
      split
      · rename_i e
        rw [← e, hz] at h1
        have := Option.some.inj h1
        omega
      · exact h1
    · have h1 : i < 0 := ht
      have := hok.fr
      omega
  · rw [List.getElem?_set] at hmz
    split at hmz
    · rename_i e
      rw [if_pos (by rw [L.al]; exact hm)] at hmz
      exact .inl (Option.some.inj hmz).symm
    · rename_i e
      rcases L.ths m z hmz with q | ⟨j, c', q1, q2, q3, q4, q5, q6, q7⟩
      · exact .inl q
      · refine .inr ⟨j, c', q1, hother j c' (fun e2 => ?_) q2, q3, q4, q5, q6, q7⟩
        subst e2
        rw [hc] at q2; cases q2
        exact e (by omega)
  · obtain ⟨c', q1, q2, q3, q4, q5, q6⟩ := L.dok d hd
    by_cases e : d.k = k
    · rw [e, hc] at q1; cases q1
      have hdd : d = d0 := by
        have hp := L.dpw
        obtain ⟨x, hx, rfl⟩ := List.getElem_of_mem hd
        obtain ⟨y, hy, rfl⟩ := List.getElem_of_mem hd1
        have hp2 := List.pairwise_iff_getElem.1 hp
        rcases Nat.lt_trichotomy x y with r | r | r
        · exact absurd (e.trans hd2.symm) (hp2 x y hx hy r).2.1
        · subst r; rfl
        · exact absurd (hd2.trans e.symm) (hp2 y x hy hx r).2.1
      refine ⟨(⟨c.me, c.k, c.u, c.v, c.x, c.era, c.fr, i, an.err, an.is, an.n, an.w, an.list, A, cap⟩ : Cl), by rw [e]; exact hsame, q2, q3, q4, by omega, fun _ => ?_⟩
      rw [hdd, hd3]
      exact ⟨hdok.2.2, rfl, rfl, rfl, rfl⟩
    · exact ⟨c', hother _ _ e q1, q2, q3, q4, by omega, q6⟩
  · rcases hcase j a hj with ⟨_, q⟩ | ⟨rfl, rfl⟩
    · exact L.all j a q ht
    · exact ⟨d0, hd1, hd2⟩
/-! ### what is so at the end -/
theorem Live.hist {i era : Int} {h : List Cl} {g : List Arc} {ats : List Int} {ov : List Bool} {outs : List Ans} {dn : List Dn} (L : Live i era h g ats ov outs dn) (_hi : i ≤ 1000000) : HistIn h := by
  refine ⟨fun j b hb => ⟨?_, fun k a hk ha => L.fits k j a b hk ha hb⟩, L.len, fun c hc => ?_⟩
  · have hok := L.ok b (List.mem_of_getElem? hb)
    have h1 := hok.k
    have h2 := hok.me
    have h3 := hok.e
    have h4 := hok.fr
    have h5 := hok.to'
    unfold mayB
    exact decide_eq_true (by omega)
  · have hok := L.ok c hc
    have h1 := hok.k
    have h3 := hok.u
    have h4 := hok.v
    exact ⟨by omega, by omega, by omega, hok.x⟩
theorem Live.not17 {i era : Int} {h : List Cl} {g : List Arc} {ats : List Int} {ov : List Bool} {outs : List Ans} {dn : List Dn} (L : Live i era h g ats ov outs dn) : ∀ c ∈ h, c.k ≠ 17 := fun c hc => by have := (L.ok c hc).k; omega
theorem okc_pt1 {i era : Int} {c : Cl} (h : OkC i era c) : (c.to = -1 ∧ openB c = true ∧ pt1 c = (if asksB c.k then [] else [ptOpen c])) ∨ (0 ≤ c.to ∧ openB c = false ∧ pt1 c = [ptPlain c]) := by
  have h4 := h.fr
  rcases h.to' with ⟨h1, h2⟩ | ⟨h1, _, h2⟩
  · have ho : openB c = true := decide_eq_true (by omega)
    have hi : idleB c = false := decide_eq_false (by omega)
    refine .inl ⟨h1, ho, ?_⟩
    unfold pt1
    rw [ho, hi, Bool.or_false, Bool.true_and, if_pos rfl]
  · have ho : openB c = false := decide_eq_false (by omega)
    have hi : idleB c = false := decide_eq_false (by omega)
    refine .inr ⟨by omega, ho, ?_⟩
    unfold pt1
    rw [ho, hi]
    simp
/-- The points of the calls that are done, in their moments' order. -/
def dpt (h : List Cl) (d : Dn) : List Pt := match h[d.k]? with | some c => pt1 c | none => []
theorem dpt_at {h : List Cl} {d : Dn} {c : Cl} (hc : h[d.k]? = some c) : dpt h d = pt1 c := by unfold dpt; rw [hc]
theorem dpt_one (h : List Cl) (d : Dn) : (dpt h d).length ≤ 1 := by
  unfold dpt
  split
  · exact pt1_one _
  · simp
def donePts (h : List Cl) (dn : List Dn) : List Pt := dn.flatMap (dpt h)
theorem mem_done {h : List Cl} {dn : List Dn} {p : Pt} : p ∈ donePts h dn ↔ ∃ d ∈ dn, ∃ c, h[d.k]? = some c ∧ p ∈ pt1 c := by
  unfold donePts
  rw [List.mem_flatMap]
  constructor
  · rintro ⟨d, hd, hp⟩
    cases hc : h[d.k]? with
    | none => unfold dpt at hp; rw [hc] at hp; cases hp
    | some c => rw [dpt_at hc] at hp; exact ⟨d, hd, c, hc, hp⟩
  · rintro ⟨d, hd, c, hc, hp⟩
    exact ⟨d, hd, by rw [dpt_at hc]; exact hp⟩
theorem done_fits {i era : Int} {h : List Cl} (ok : ∀ c ∈ h, OkC i era c) : ∀ (dn : List Dn) (g0 g : List Arc), DoneRun g0 dn g → (∀ d ∈ dn, ∃ c, h[d.k]? = some c ∧ d.o = clOp c ∧ (0 ≤ c.to → c.err = d.an.err ∧ c.is = d.an.is ∧ c.n = d.an.n ∧ c.w = d.an.w)) → Fits g0 (donePts h dn) ∧ foldG g0 (donePts h dn) = g
  | [], g0, g, hr, _ => by
    have : g = g0 := hr
    subst this
    exact ⟨trivial, rfl⟩
  | d :: dn, g0, g, hr, hd => by
    obtain ⟨c, hc, hop, ha⟩ := hd d (List.mem_cons_self ..)
    have ih := done_fits ok dn _ g hr.2 (fun d' h' => hd d' (List.mem_cons_of_mem _ h'))
    have hcons : donePts h (d :: dn) = pt1 c ++ donePts h dn := by
      unfold donePts
      rw [List.flatMap_cons, dpt_at hc]
    rw [hcons, fits_append, foldG_append]
    have hoc := ok c (List.mem_of_getElem? hc)
    rcases okc_pt1 hoc with ⟨ht, ho, hp⟩ | ⟨ht, ho, hp⟩
    · rw [hp]
      by_cases hask : asksB c.k = true
      · rw [if_pos hask]
        have hst : doG g0 d.o = g0 := still_do (by
          rw [hop]
          show turnsB c.k = false
          unfold asksB at hask
          have := of_decide_eq_true hask
          unfold turnsB
          exact decide_eq_false (by omega))
        rw [hst] at ih
        exact ⟨⟨trivial, ih.1⟩, ih.2⟩
      · rw [if_neg hask]
        have e1 : foldG g0 [ptOpen c] = doG g0 d.o := by rw [hop]; rfl
        rw [e1]
        refine ⟨⟨⟨fun q => (by cases q), trivial⟩, ih.1⟩, ih.2⟩
    · rw [hp]
      have e1 : foldG g0 [ptPlain c] = doG g0 d.o := by rw [hop]; rfl
      rw [e1]
      refine ⟨⟨⟨fun _ => ?_, trivial⟩, ih.1⟩, ih.2⟩
      obtain ⟨a1, a2, a3, a4⟩ := ha ht
      have e2 : doA g0 (opOf (ptPlain c)) = d.an := by rw [hr.1, hop]; rfl
      rw [e2]
      unfold fitR
      exact decide_eq_true ⟨a1, a2, .inr ⟨a4, a3⟩⟩
theorem pts1_sorted {h : List Cl} {P : Pt → Pt → Prop} (hp : h.Pairwise fun a b => ∀ p ∈ pt1 a, ∀ q ∈ pt1 b, P p q) : (h.flatMap pt1).Pairwise P := by
  rw [List.pairwise_flatMap]
  exact ⟨fun c _ => pw_one (pt1_one c), hp⟩
theorem Live.frs {i era : Int} {h : List Cl} {g : List Arc} {ats : List Int} {ov : List Bool} {outs : List Ans} {dn : List Dn} (L : Live i era h g ats ov outs dn) {j k : Nat} {a b : Cl} (ha : h[j]? = some a) (hb : h[k]? = some b) (hjk : j ≠ k) : a.fr ≠ b.fr := by
  rcases Nat.lt_or_gt_of_ne hjk with q | q
  · have := (of_decide_eq_true (L.fits j k a b q ha hb)).1; omega
  · have := (of_decide_eq_true (L.fits k j b a q hb ha)).1; omega
theorem Live.ends {i era : Int} {h : List Cl} {g : List Arc} {ats : List Int} {ov : List Bool} {outs : List Ans} {dn : List Dn} (L : Live i era h g ats ov outs dn) : Ends h [] g := by
  have h17 := L.not17
  unfold Ends
  rw [listed1 h17, points1 h17]
  refine ⟨?_, ?_⟩
  · rw [Bool.not_eq_true', List.any_eq_false]
    intro c hc
    unfold li1
    rw [(L.ok c hc).nil]; simp
  · have hf := done_fits L.ok dn [] g L.run (fun d hd => by
      obtain ⟨c, q1, q2, _, _, _, q6⟩ := L.dok d hd
      exact ⟨c, q1, q2, fun q => (q6 q).2⟩)
    have hpw : h.Pairwise fun a b => a.fr < b.fr ∧ a.era ≤ b.era := by
      rw [List.pairwise_iff_getElem]
      intro j k hj hk hjk
      have := of_decide_eq_true (L.fits j k _ _ hjk (List.getElem?_eq_getElem hj) (List.getElem?_eq_getElem hk))
      exact ⟨this.1, this.2.1⟩
    rw [← hf.2]
    refine chain_line _ (Nat.le_refl _) ?_ ?_ ⟨fun p hp => ?_, ?_, fun p hp hm => ?_, ?_, ?_, hf.1⟩
    · rw [List.nodup_iff_pairwise_ne]
      refine pts1_sorted (hpw.imp fun {a b} hab p hp q hq e => ?_)
      subst e
      have h1 := (pt1_fr hp).1
      have h2 := (pt1_fr hq).1
      omega
    · refine pts1_sorted (hpw.imp fun {a b} hab p hp q hq => ?_)
      rw [(pt1_fr hp).2.1, (pt1_fr hq).2.1]; exact hab.2
    · obtain ⟨d, hd, c, hc, hp⟩ := mem_done.1 hp
      exact List.mem_flatMap.2 ⟨c, List.mem_of_getElem? hc, hp⟩
    · unfold donePts
      rw [List.pairwise_flatMap]
      refine ⟨fun d _ => pw_one (dpt_one h d), L.dpw.imp_of_mem fun {a b} ha hb hab p hp q hq e => ?_⟩
      obtain ⟨c, q1, _⟩ := L.dok a ha
      obtain ⟨c', r1, _⟩ := L.dok b hb
      rw [dpt_at q1] at hp
      rw [dpt_at r1] at hq
      subst e
      exact L.frs q1 r1 hab.2.1 ((pt1_fr hp).1.symm.trans (pt1_fr hq).1)
    · obtain ⟨c, hc, hpc⟩ := List.mem_flatMap.1 hp
      obtain ⟨k, hk, hkc⟩ := List.getElem_of_mem hc
      have hck : h[k]? = some c := by rw [List.getElem?_eq_getElem hk, hkc]
      obtain ⟨he, ho⟩ := pt1_must hpc hm
      have hto : 0 ≤ c.to := by
        rcases okc_pt1 (L.ok c hc) with ⟨_, q, _⟩ | ⟨q, _, _⟩
        · rw [q] at ho; cases ho
        · exact q
      obtain ⟨d, hd, hdk⟩ := L.all k c hck hto
      exact mem_done.2 ⟨d, hd, c, by rw [hdk]; exact hck, hpc⟩
    · unfold donePts
      rw [List.pairwise_flatMap]
      refine ⟨fun d _ => pw_one (dpt_one h d), L.dpw.imp_of_mem fun {a b} ha hb hab p hp q hq => ?_⟩
      obtain ⟨c, q1, _, q3, _⟩ := L.dok a ha
      obtain ⟨c', r1, _, r3, _⟩ := L.dok b hb
      rw [dpt_at q1] at hp
      rw [dpt_at r1] at hq
      rw [(pt1_fr hp).2.1, (pt1_fr hq).2.1, ← q3, ← r3]
      exact hab.2.2
    · unfold donePts
      rw [List.pairwise_flatMap]
      refine ⟨fun d _ => pw_one (dpt_one h d), L.dpw.imp_of_mem fun {a b} ha hb hab p hp q hq _ => ?_⟩
      obtain ⟨c, q1, _, _, q4, _⟩ := L.dok a ha
      obtain ⟨c', r1, _, _, _, _, r6⟩ := L.dok b hb
      rw [dpt_at q1] at hp
      rw [dpt_at r1] at hq
      rintro ⟨hm, h0, hlt⟩
      obtain ⟨rfl, ho⟩ := pt1_must hq hm
      have h1 : (ptPlain c').to = c'.to := rfl
      have h2 := r6 (by omega)
      have h3 := (pt1_fr hp).1
      have h4 := hab.1
      omega
end Go.Proofs.YtpdfmfkoopdfgaaGreatDoor
end
section
namespace Go.Proofs.YtpdfmfkoopdfgaaGreatDoor
set_option maxRecDepth 100000
open Go.RowKit Aid Gr Hs LinP HeapP

/-- An answer, and where its list lies. -/
structure OV where
  a : Ans
  A : Option Addr
  c : Nat
def OV.cells (x : OV) : List Value := [.int .i64 x.a.err, .bool x.a.is, .int .i64 x.a.n, .int .u64 x.a.w, .slice x.A x.a.list.length x.c]
def oflat : List OV → List Value
  | [] => []
  | x :: l => x.cells ++ oflat l
theorem oflat_get : ∀ (l : List OV) {k : Nat} {x : OV} {j : Nat} {v : Value}, l[k]? = some x → x.cells[j]? = some v → (oflat l)[k * 5 + j]? = some v
  | [], k, x, j, v, h, _ => by simp at h
  | q :: l, 0, x, j, v, h, hj => by
    obtain rfl : q = x := by simpa using h
    rw [oflat, Nat.zero_mul, Nat.zero_add, List.getElem?_append_left (List.getElem?_eq_some_iff.1 hj).1]
    exact hj
  | q :: l, k + 1, x, j, v, h, hj => by
    have hq : q.cells.length = 5 := rfl
    rw [oflat, List.getElem?_append_right (by rw [hq]; omega), hq, show (k + 1) * 5 + j - 5 = k * 5 + j by omega]
    exact oflat_get l (by simpa using h) hj
/-- Five cells of a row set anew. -/
def set5 (l : List Value) (o : Nat) (a b c d e : Value) : List Value := ((((l.set o a).set (o + 1) b).set (o + 2) c).set (o + 3) d).set (o + 4) e
theorem oflat_set : ∀ (l : List OV) {k : Nat} (x : OV), k < l.length → set5 (oflat l) (k * 5) (.int .i64 x.a.err) (.bool x.a.is) (.int .i64 x.a.n) (.int .u64 x.a.w) (.slice x.A x.a.list.length x.c) = oflat (l.set k x)
  | [], k, x, h => by simp at h
  | q :: l, 0, x, _ => by
    rw [List.set_cons_zero, oflat, oflat]
    rfl
  | q :: l, k + 1, x, h => by
    have hq : q.cells.length = 5 := rfl
    have ih := oflat_set l (k := k) x (by simpa using h)
    rw [List.set_cons_succ, oflat, oflat, ← ih]
    unfold set5
    have e : ∀ j, (k + 1) * 5 + j = 5 + (k * 5 + j) := fun j => by omega
    have e0 : (k + 1) * 5 = 5 + k * 5 := by omega
    have st : ∀ (m : List Value) (j : Nat) (v : Value), (q.cells ++ m).set (5 + j) v = q.cells ++ m.set j v := fun m j v => by
      rw [List.set_append_right _ _ (by rw [hq]; omega), hq, show 5 + j - 5 = j by omega]
    rw [e0, st, show 5 + k * 5 + 1 = 5 + (k * 5 + 1) by omega, st, show 5 + k * 5 + 2 = 5 + (k * 5 + 2) by omega, st, show 5 + k * 5 + 3 = 5 + (k * 5 + 3) by omega, st, show 5 + k * 5 + 4 = 5 + (k * 5 + 4) by omega, st]
/-- Rows of two kinds lie apart. -/
theorem own_kinds {w : World} {b0 b1 : Nat} {e0 e1 : TypeId} {s0 s1 : Nat} {v0 v1 : Value} {n0 n1 : Nat} {x0 x1 : List Value} (h0 : w.ownsRow b0 e0 s0 v0 n0 x0) (h1 : w.ownsRow b1 e1 s1 v1 n1 x1) (he : e0 ≠ e1) {k0 k1 : Nat} (hk0 : v0.ownBlock = some k0) (hk1 : v1.ownBlock = some k1) : k0 ≠ k1 := by
  obtain ⟨c0, f0, q0⟩ := own_row h0 _ hk0
  obtain ⟨c1, f1, q1⟩ := own_row h1 _ hk1
  rintro rfl
  rw [q0] at q1
  injection q1 with q1
  injection q1 with _ q1
  exact he q1
theorem set_other {w : World} {base : Nat} {e : TypeId} {size : Nat} {v : Value} {n : Nat} {xs : List Value} (h : w.ownsRow base e size v n xs) {b o : Nat} (u : Value) (hne : v.ownBlock ≠ some b) : (w.setCell ⟨b, o, none⟩ u).ownsRow base e size v n xs := ownsRow_setCell_other (a := ⟨b, o, none⟩) h hne u
theorem arcs_other {w : World} {G : Option Addr} {g : List Arc} (h : Arcs w G g) {b o : Nat} (u : Value) (hne : 0 < g.length → ∀ p, G = some p → p.block ≠ b) : Arcs (w.setCell ⟨b, o, none⟩ u) G g := by
  refine ⟨h.1, h.2.1, fun hp => ?_⟩
  obtain ⟨b', off, hA, hc⟩ := h.2.2 hp
  have hn := hne hp _ hA
  exact ⟨b', off, hA, fun j a hj => by
    obtain ⟨q0, q1, q2⟩ := hc j a hj
    exact ⟨(cell_set_ne w ⟨b, o, none⟩ ⟨b', off + j * 3, none⟩ u hn).trans q0, (cell_set_ne w ⟨b, o, none⟩ ⟨b', off + j * 3 + 1, none⟩ u hn).trans q1, (cell_set_ne w ⟨b, o, none⟩ ⟨b', off + j * 3 + 2, none⟩ u hn).trans q2⟩⟩
structure LM (w1 wr : World) (H : Option Addr) (nh hc : Nat) (h : List Cl) (G : Option Addr) (ng : Nat) (g : List Arc) (ga : Nat) (ats : List Int) (go : Nat) (ov : List Bool) (gu : Nat) (outs : List OV) : Prop where
  hn : nh = h.length
  gn : ng = g.length
  hs : wr.ownsRow w1.heap.size 43 13 (.slice H nh hc) nh (flatC h)
  gs : Arcs wr G g
  aa : wr.ownsRow w1.heap.size 3 1 (.slice (some ⟨ga, 0, none⟩) 3 3) 3 (ats.map (Value.int .i64))
  oo : wr.ownsRow w1.heap.size 4 1 (.slice (some ⟨go, 0, none⟩) 3 3) 3 (ov.map Value.bool)
  uu : wr.ownsRow w1.heap.size 41 5 (.slice (some ⟨gu, 0, none⟩) 3 3) 3 (oflat outs)
  far : 0 < g.length → ∀ p, G = some p → p.block ≠ ga ∧ p.block ≠ go ∧ p.block ≠ gu ∧ ∀ q, H = some q → p.block ≠ q.block
  bel : Below w1.heap.size w1 wr
section
variable {w1 wr : World} {H : Option Addr} {nh hc : Nat} {h : List Cl} {G : Option Addr} {ng : Nat} {g : List Arc} {ga : Nat} {ats : List Int} {go : Nat} {ov : List Bool} {gu : Nat} {outs : List OV}
theorem LM.later (m : LM w1 wr H nh hc h G ng g ga ats go ov gu outs) {w' : World} (hb : Below wr.heap.size wr w') : LM w1 w' H nh hc h G ng g ga ats go ov gu outs :=
  ⟨m.hn, m.gn, own_belowR m.hs hb, m.gs.below hb (Nat.le_refl _), own_belowR m.aa hb, own_belowR m.oo hb, own_belowR m.uu hb, m.far, m.bel.trans (hb.mono m.bel.size)⟩
theorem LM.hblk (m : LM w1 wr H nh hc h G ng g ga ats go ov gu outs) : ∀ q, H = some q → (Value.slice H nh hc).ownBlock = some q.block := fun q hq => by subst hq; rfl
theorem LM.ne (m : LM w1 wr H nh hc h G ng g ga ats go ov gu outs) : ga ≠ go ∧ ga ≠ gu ∧ go ≠ gu ∧ (Value.slice H nh hc).ownBlock ≠ some ga ∧ (Value.slice H nh hc).ownBlock ≠ some go ∧ (Value.slice H nh hc).ownBlock ≠ some gu :=
  ⟨own_kinds m.aa m.oo (by decide) rfl rfl, own_kinds m.aa m.uu (by decide) rfl rfl, own_kinds m.oo m.uu (by decide) rfl rfl, fun e => own_kinds m.hs m.aa (by decide) e rfl rfl, fun e => own_kinds m.hs m.oo (by decide) e rfl rfl, fun e => own_kinds m.hs m.uu (by decide) e rfl rfl⟩
theorem some_ne {a b : Nat} (h : a ≠ b) : some a ≠ some b := fun e => h (Option.some.inj e)
/-- at[me] is set. -/
theorem LM.setAt (m : LM w1 wr H nh hc h G ng g ga ats go ov gu outs) (k : Nat) (z : Int) : LM w1 (wr.setCell ⟨ga, k, none⟩ (.int .i64 z)) H nh hc h G ng g ga (ats.set k z) go ov gu outs := by
  obtain ⟨n1, n2, n3, n4, n5, n6⟩ := m.ne
  have hg := (m.aa.lt ga rfl).1
  exact ⟨m.hn, m.gn, set_other m.hs _ n4, arcs_other m.gs _ (fun h0 p hp => (m.far h0 p hp).1), by rw [List.map_set]; exact own_set m.aa k _, set_other m.oo _ (some_ne n1.symm), set_other m.uu _ (some_ne n2.symm), m.far, m.bel.setCell (p := ⟨ga, k, none⟩) hg _⟩
/-- over[me] is set. -/
theorem LM.setOv (m : LM w1 wr H nh hc h G ng g ga ats go ov gu outs) (k : Nat) (b : Bool) : LM w1 (wr.setCell ⟨go, k, none⟩ (.bool b)) H nh hc h G ng g ga ats go (ov.set k b) gu outs := by
  obtain ⟨n1, n2, n3, n4, n5, n6⟩ := m.ne
  have hg := (m.oo.lt go rfl).1
  exact ⟨m.hn, m.gn, set_other m.hs _ n5, arcs_other m.gs _ (fun h0 p hp => (m.far h0 p hp).2.1), set_other m.aa _ (some_ne n1), by rw [List.map_set]; exact own_set m.oo k _, set_other m.uu _ (some_ne n3.symm), m.far, m.bel.setCell (p := ⟨go, k, none⟩) hg _⟩
/-- A cell of a block that is not the calls' is set. -/
theorem LM.setH (m : LM w1 wr H nh hc h G ng g ga ats go ov gu outs) {gh : Nat} (hH : H = some ⟨gh, 0, none⟩) (o : Nat) (u : Value) {h' : List Cl} (hl : h'.length = h.length) (he : (flatC h).set o u = flatC h') : LM w1 (wr.setCell ⟨gh, o, none⟩ u) H nh hc h' G ng g ga ats go ov gu outs := by
  subst hH
  obtain ⟨n1, n2, n3, n4, n5, n6⟩ := m.ne
  have hg := (m.hs.lt gh rfl).1
  have e1 : ga ≠ gh := fun e => n4 (by rw [e]; rfl)
  have e2 : go ≠ gh := fun e => n5 (by rw [e]; rfl)
  have e3 : gu ≠ gh := fun e => n6 (by rw [e]; rfl)
  exact ⟨m.hn.trans hl.symm, m.gn, by rw [← he]; exact own_set m.hs o u, arcs_other m.gs _ (fun h0 p hp => (m.far h0 p hp).2.2.2 _ rfl), set_other m.aa _ (some_ne e1), set_other m.oo _ (some_ne e2), set_other m.uu _ (some_ne e3), m.far, m.bel.setCell (p := ⟨gh, o, none⟩) hg _⟩
/-- One cell of outs is set: the row is read as its cells. -/
structure LU (w1 wr : World) (H : Option Addr) (nh hc : Nat) (h : List Cl) (G : Option Addr) (ng : Nat) (g : List Arc) (ga : Nat) (ats : List Int) (go : Nat) (ov : List Bool) (gu : Nat) (us : List Value) : Prop where
  hn : nh = h.length
  gn : ng = g.length
  hs : wr.ownsRow w1.heap.size 43 13 (.slice H nh hc) nh (flatC h)
  gs : Arcs wr G g
  aa : wr.ownsRow w1.heap.size 3 1 (.slice (some ⟨ga, 0, none⟩) 3 3) 3 (ats.map (Value.int .i64))
  oo : wr.ownsRow w1.heap.size 4 1 (.slice (some ⟨go, 0, none⟩) 3 3) 3 (ov.map Value.bool)
  uu : wr.ownsRow w1.heap.size 41 5 (.slice (some ⟨gu, 0, none⟩) 3 3) 3 us
  far : 0 < g.length → ∀ p, G = some p → p.block ≠ ga ∧ p.block ≠ go ∧ p.block ≠ gu ∧ ∀ q, H = some q → p.block ≠ q.block
  bel : Below w1.heap.size w1 wr
theorem LM.toU (m : LM w1 wr H nh hc h G ng g ga ats go ov gu outs) : LU w1 wr H nh hc h G ng g ga ats go ov gu (oflat outs) := ⟨m.hn, m.gn, m.hs, m.gs, m.aa, m.oo, m.uu, m.far, m.bel⟩
theorem LU.set {us : List Value} (m : LU w1 wr H nh hc h G ng g ga ats go ov gu us) (k : Nat) (u : Value) : LU w1 (wr.setCell ⟨gu, k, none⟩ u) H nh hc h G ng g ga ats go ov gu (us.set k u) := by
  have n2 : ga ≠ gu := own_kinds m.aa m.uu (by decide) rfl rfl
  have n3 : go ≠ gu := own_kinds m.oo m.uu (by decide) rfl rfl
  have n6 : (Value.slice H nh hc).ownBlock ≠ some gu := fun e => own_kinds m.hs m.uu (by decide) e rfl rfl
  have hg := (m.uu.lt gu rfl).1
  exact ⟨m.hn, m.gn, set_other m.hs _ n6, arcs_other m.gs _ (fun h0 p hp => (m.far h0 p hp).2.2.1), set_other m.aa _ (some_ne n2), set_other m.oo _ (some_ne n3), own_set m.uu k _, m.far, m.bel.setCell (p := ⟨gu, k, none⟩) hg _⟩
theorem LU.back {us : List Value} (m : LU w1 wr H nh hc h G ng g ga ats go ov gu us) (he : us = oflat outs) : LM w1 wr H nh hc h G ng g ga ats go ov gu outs := by subst he; exact ⟨m.hn, m.gn, m.hs, m.gs, m.aa, m.oo, m.uu, m.far, m.bel⟩
/-- outs[me] is set. -/
theorem LM.setOut (m : LM w1 wr H nh hc h G ng g ga ats go ov gu outs) {k : Nat} (hk : k < outs.length) (x : OV) : LM w1 (((((wr.setCell ⟨gu, k * 5, none⟩ (.int .i64 x.a.err)).setCell ⟨gu, k * 5 + 1, none⟩ (.bool x.a.is)).setCell ⟨gu, k * 5 + 2, none⟩ (.int .i64 x.a.n)).setCell ⟨gu, k * 5 + 3, none⟩ (.int .u64 x.a.w)).setCell ⟨gu, k * 5 + 4, none⟩ (.slice x.A x.a.list.length x.c)) H nh hc h G ng g ga ats go ov gu (outs.set k x) :=
  (((((m.toU.set (k * 5) _).set (k * 5 + 1) _).set (k * 5 + 2) _).set (k * 5 + 3) _).set (k * 5 + 4) _).back (oflat_set outs x hk)
end
/-- A row that is new. -/
theorem own_new (w : World) (base : Nat) (cur : Array Value) (e : TypeId) (size n : Nat) (xs : List Value) (hb : base ≤ w.heap.size) (hx : cur.toList = xs) (hl : xs.length = n * size) (hm : n ≤ maxLen) : (w.alloc (.cells cur e)).ownsRow base e size (.slice (some ⟨w.heap.size, 0, none⟩) n n) n xs := by
  have hs : cur.size = n * size := by rw [← hl, ← hx]; simp
  exact ⟨hl, .inr ⟨w.heap.size, n, cur, rfl, hb, heap_alloc_new w _, Nat.le_refl _, hm, hs, by rw [hx, List.take_of_length_le (by omega)]⟩⟩
theorem made3 : (madeCells #[Value.bool false] 3).toList = [.bool false, .bool false, .bool false] := by kernel_rfl
theorem made15 : (madeCells #[Value.int .i64 0, .bool false, .int .i64 0, .int .u64 0, .slice none 0 0] 15).toList = [.int .i64 0, .bool false, .int .i64 0, .int .u64 0, .slice none 0 0, .int .i64 0, .bool false, .int .i64 0, .int .u64 0, .slice none 0 0, .int .i64 0, .bool false, .int .i64 0, .int .u64 0, .slice none 0 0] := by kernel_rfl
def outZ : OV := ⟨⟨0, false, 0, 0, []⟩, none, 0⟩
def zAt : Array Value := #[.int .i64 (-1), .int .i64 (-1), .int .i64 (-1)]
theorem LM.start (w1 : World) : LM w1 (((w1.alloc (.cells #[.int .i64 (-1), .int .i64 (-1), .int .i64 (-1)] 3)).alloc (.cells (madeCells #[.bool false] 3) 4)).alloc (.cells (madeCells #[.int .i64 0, .bool false, .int .i64 0, .int .u64 0, .slice none 0 0] 15) 41)) none 0 0 [] none 0 [] w1.heap.size [-1, -1, -1] (w1.heap.size + 1) [false, false, false] (w1.heap.size + 2) [outZ, outZ, outZ] := by
  have a1 := own_new w1 w1.heap.size #[.int .i64 (-1), .int .i64 (-1), .int .i64 (-1)] 3 1 3 [.int .i64 (-1), .int .i64 (-1), .int .i64 (-1)] (Nat.le_refl _) rfl rfl (by unfold maxLen; omega)
  have a2 := own_new (w1.alloc (.cells #[.int .i64 (-1), .int .i64 (-1), .int .i64 (-1)] 3)) w1.heap.size (madeCells #[.bool false] 3) 4 1 3 [.bool false, .bool false, .bool false] (by rw [World.size_alloc]; omega) made3 rfl (by unfold maxLen; omega)
  have a3 := own_new ((w1.alloc (.cells #[.int .i64 (-1), .int .i64 (-1), .int .i64 (-1)] 3)).alloc (.cells (madeCells #[.bool false] 3) 4)) w1.heap.size (madeCells #[.int .i64 0, .bool false, .int .i64 0, .int .u64 0, .slice none 0 0] 15) 41 5 3 (oflat [outZ, outZ, outZ]) (by simp only [World.size_alloc]; omega) made15 rfl (by unfold maxLen; omega)
  simp only [World.size_alloc] at a2 a3
  exact ⟨rfl, rfl, World.ownsRow_nil _ _ _ _, ⟨by simp, by simp, fun h => by simp at h⟩, (a1.alloc _).alloc _, a2.alloc _, a3, fun h => by simp at h, (((Below.refl w1.heap.size w1).alloc (Nat.le_refl _) _).alloc (by rw [World.size_alloc]; omega) _).alloc (by simp only [World.size_alloc]; omega) _⟩
section
variable {w1 wr : World} {H : Option Addr} {nh hc : Nat} {h : List Cl} {G : Option Addr} {ng : Nat} {g : List Arc} {ga : Nat} {ats : List Int} {go : Nat} {ov : List Bool} {gu : Nat} {outs : List OV}
theorem LM.glt (m : LM w1 wr H nh hc h G ng g ga ats go ov gu outs) (hp : 0 < g.length) : ∀ p, G = some p → p.block < wr.heap.size := fun p hg => by
  obtain ⟨b, off, hA, hc⟩ := m.gs.2.2 hp
  rw [hA] at hg; cases hg
  exact World.block_lt_of_cell? _ _ (hc 0 _ (List.getElem?_eq_getElem hp)).1
/-- A crash: at and over are made anew. -/
theorem LM.crash (m : LM w1 wr H nh hc h G ng g ga ats go ov gu outs) : LM w1 ((wr.alloc (.cells #[.int .i64 (-1), .int .i64 (-1), .int .i64 (-1)] 3)).alloc (.cells (madeCells #[.bool false] 3) 4)) H nh hc h G ng g wr.heap.size [-1, -1, -1] (wr.heap.size + 1) [false, false, false] gu outs := by
  have hb : Below wr.heap.size wr ((wr.alloc (.cells #[.int .i64 (-1), .int .i64 (-1), .int .i64 (-1)] 3)).alloc (.cells (madeCells #[.bool false] 3) 4)) := ((Below.refl _ _).alloc (Nat.le_refl _) _).alloc (by rw [World.size_alloc]; omega) _
  have l := m.later hb
  have a1 := own_new wr w1.heap.size #[.int .i64 (-1), .int .i64 (-1), .int .i64 (-1)] 3 1 3 [.int .i64 (-1), .int .i64 (-1), .int .i64 (-1)] m.bel.size rfl rfl (by unfold maxLen; omega)
  have a2 := own_new (wr.alloc (.cells #[.int .i64 (-1), .int .i64 (-1), .int .i64 (-1)] 3)) w1.heap.size (madeCells #[.bool false] 3) 4 1 3 [.bool false, .bool false, .bool false] (by rw [World.size_alloc]; have := m.bel.size; omega) made3 rfl (by unfold maxLen; omega)
  rw [World.size_alloc] at a2
  refine ⟨l.hn, l.gn, l.hs, l.gs, a1.alloc _, a2, l.uu, fun h0 p hp => ?_, l.bel⟩
  have h1 := m.glt h0 p hp
  have h2 := m.far h0 p hp
  exact ⟨by omega, by omega, h2.2.2.1, h2.2.2.2⟩
/-- The graph behind an operation. -/
theorem LM.doit (m : LM w1 wr H nh hc h G ng g ga ats go ov gu outs) {w' : World} (hb : Below wr.heap.size wr w') {X : Option Addr} {g' : List Arc} (hx : Arcs w' X g') (hf : (X = G ∧ g' = g) ∨ (X = G ∧ 0 < g.length) ∨ ∀ p, X = some p → wr.heap.size ≤ p.block) : LM w1 w' H nh hc h X g'.length g' ga ats go ov gu outs := by
  have l := m.later hb
  refine ⟨l.hn, rfl, l.hs, hx, l.aa, l.oo, l.uu, fun h0 p hp => ?_, l.bel⟩
  rcases hf with ⟨rfl, rfl⟩ | ⟨rfl, h1⟩ | hf
  · exact m.far h0 p hp
  · exact m.far h1 p hp
  · have h3 := hf p hp
    have k1 := (m.aa.lt ga rfl).2
    have k2 := (m.oo.lt go rfl).2
    have k3 := (m.uu.lt gu rfl).2
    exact ⟨by omega, by omega, by omega, fun q hq => by
      have := (m.hs.lt q.block (m.hblk q hq)).2
      omega⟩
/-- A call more. -/
theorem LM.ask (m : LM w1 wr H nh hc h G ng g ga ats go ov gu outs) {w' : World} {H' : Option Addr} {hc' : Nat} {c : Cl} (ho : w'.ownsRow w1.heap.size 43 13 (.slice H' (nh + 1) hc') (nh + 1) (flatC (h ++ [c]))) (hg : wr.grownBy w' (Value.slice H nh hc).ownBlock) (hk : (Value.slice H' (nh + 1) hc').ownBlock = (Value.slice H nh hc).ownBlock ∨ (Value.slice H' (nh + 1) hc').ownBlock = some wr.heap.size) : LM w1 w' H' (nh + 1) hc' (h ++ [c]) G ng g ga ats go ov gu outs := by
  obtain ⟨n1, n2, n3, n4, n5, n6⟩ := m.ne
  have keep : ∀ {e : TypeId} {size b k n : Nat} {xs : List Value}, wr.ownsRow w1.heap.size e size (.slice (some ⟨b, 0, none⟩) n k) n xs → (Value.slice H nh hc).ownBlock ≠ some b → w'.ownsRow w1.heap.size e size (.slice (some ⟨b, 0, none⟩) n k) n xs := fun h0 hne => own_blk h0 (fun j hj => by
    have hj' : some _ = some j := hj
    cases hj'
    exact hg.block _ (h0.lt _ rfl).2 (fun q => hne q.symm))
  refine ⟨by rw [List.length_append, List.length_singleton, m.hn], m.gn, ho, ?_, keep m.aa n4, keep m.oo n5, keep m.uu n6, fun h0 p hp => ?_, m.bel.grown hg m.bel.size (fun k hk => (m.hs.lt k hk).1)⟩
  · refine ⟨m.gs.1, m.gs.2.1, fun hp => ?_⟩
    obtain ⟨b, off, hA, hcs⟩ := m.gs.2.2 hp
    have hlt := m.glt hp _ hA
    have hne : some b ≠ (Value.slice H nh hc).ownBlock := fun e => by
      cases H with
      | none => cases e
      | some q => exact (m.far hp _ hA).2.2.2 q rfl (Option.some.inj e)
    exact ⟨b, off, hA, fun j a hj => by
      obtain ⟨q0, q1, q2⟩ := hcs j a hj
      exact ⟨(hg.cell_far ⟨b, off + j * 3, none⟩ hlt hne).trans q0, (hg.cell_far ⟨b, off + j * 3 + 1, none⟩ hlt hne).trans q1, (hg.cell_far ⟨b, off + j * 3 + 2, none⟩ hlt hne).trans q2⟩⟩
  · have h1 := m.far h0 p hp
    have h2 := m.glt h0 p hp
    refine ⟨h1.1, h1.2.1, h1.2.2.1, fun q hq => ?_⟩
    subst hq
    rcases hk with hk | hk
    · cases H with
      | none => cases hk
      | some r => have := h1.2.2.2 r rfl; exact fun e => this (e.trans (Option.some.inj hk))
    · have := Option.some.inj hk
      exact fun e => by have e' : q.block = wr.heap.size := this; omega
end
end Go.Proofs.YtpdfmfkoopdfgaaGreatDoor
end
section
namespace Go.Proofs.YtpdfmfkoopdfgaaGreatDoor
set_option maxRecDepth 100000
open Go.RowKit Aid Gr Hs LinP HeapP

def Gr.Op.cells (o : Gr.Op) : List Value := [.int .i64 o.k, .int .i64 o.u, .int .i64 o.v, .int .u64 o.w]
def opflat : List Gr.Op → List Value
  | [] => []
  | x :: l => x.cells ++ opflat l
theorem opflat_length : ∀ l : List Gr.Op, (opflat l).length = l.length * 4
  | [] => rfl
  | x :: l => by rw [opflat, List.length_append, opflat_length l, List.length_cons]; show 4 + _ = _; omega
theorem opflat_get : ∀ (l : List Gr.Op) {k : Nat} {x : Gr.Op} {j : Nat} {v : Value}, l[k]? = some x → x.cells[j]? = some v → (opflat l)[k * 4 + j]? = some v
  | [], k, x, j, v, h, _ => by simp at h
  | q :: l, 0, x, j, v, h, hj => by
    obtain rfl : q = x := by simpa using h
    rw [opflat, Nat.zero_mul, Nat.zero_add, List.getElem?_append_left (List.getElem?_eq_some_iff.1 hj).1]
    exact hj
  | q :: l, k + 1, x, j, v, h, hj => by
    have hq : q.cells.length = 4 := rfl
    rw [opflat, List.getElem?_append_right (by rw [hq]; omega), hq, show (k + 1) * 4 + j - 4 = k * 4 + j by omega]
    exact opflat_get l (by simpa using h) hj
theorem opflat_at : ∀ (l : List Gr.Op) (j : Nat) (u : Value), (opflat l)[j]? = some u → ∃ (i k : Nat) (p : Gr.Op), l[i]? = some p ∧ p.cells[k]? = some u ∧ j = i * 4 + k
  | [], j, u, h => by simp [opflat] at h
  | q :: l, j, u, h => by
    have hq : q.cells.length = 4 := rfl
    rw [opflat] at h
    rcases Nat.lt_or_ge j 4 with r | r
    · rw [List.getElem?_append_left (by rw [hq]; exact r)] at h
      exact ⟨0, j, q, rfl, h, by omega⟩
    · rw [List.getElem?_append_right (by rw [hq]; exact r), hq] at h
      obtain ⟨i, k, p, h1, h2, h3⟩ := opflat_at l (j - 4) u h
      exact ⟨i + 1, k, p, by simpa using h1, h2, by omega⟩
/-- What is left of a number, and a number of 0 and more made of it. -/
theorem tmod_rng (x m : Int) (h : 0 < m) : -m < x.tmod m ∧ x.tmod m < m := ⟨Int.lt_tmod_of_pos x h, Int.tmod_lt_of_pos x h⟩
theorem tmod_up (x m : Int) (h : 0 < m) : 0 ≤ (x.tmod m + m).tmod m ∧ (x.tmod m + m).tmod m < m := by
  have h1 := tmod_rng x m h
  exact ⟨Int.tmod_nonneg _ (by omega), Int.tmod_lt_of_pos _ h⟩
section
variable {w1 wr : World} {H : Option Addr} {nh hc : Nat} {h : List Cl} {G : Option Addr} {ng : Nat} {g : List Arc} {ga : Nat} {ats : List Int} {go : Nat} {ov : List Bool} {gu : Nat} {outs : List OV}
theorem LM.setTo (m : LM w1 wr H nh hc h G ng g ga ats go ov gu outs) {gh : Nat} (hH : H = some ⟨gh, 0, none⟩) {k : Nat} {c : Cl} (hk : h[k]? = some c) (t : Int) :
    LM w1 (wr.setCell ⟨gh, k * 13 + 7, none⟩ (.int .i64 t)) H nh hc (h.set k ⟨c.me, c.k, c.u, c.v, c.x, c.era, c.fr, t, c.err, c.is, c.n, c.w, c.list, c.A, c.cap⟩) G ng g ga ats go ov gu outs :=
  m.setH hH (k * 13 + 7) _ (List.length_set ..) (flatC_set h (c' := ⟨c.me, c.k, c.u, c.v, c.x, c.era, c.fr, t, c.err, c.is, c.n, c.w, c.list, c.A, c.cap⟩) (k := 7) (u := .int .i64 t) hk (by decide) rfl)
theorem LM.setAns (m : LM w1 wr H nh hc h G ng g ga ats go ov gu outs) {gh : Nat} (hH : H = some ⟨gh, 0, none⟩) {k : Nat} {c : Cl} (hk : h[k]? = some c) (e : Int) (i : Bool) (n x : Int) (li : List Int) (A : Option Addr) (cap : Nat) :
    LM w1 (((((wr.setCell ⟨gh, k * 13 + 8, none⟩ (.int .i64 e)).setCell ⟨gh, k * 13 + 8 + 1, none⟩ (.bool i)).setCell ⟨gh, k * 13 + 8 + 2, none⟩ (.int .i64 n)).setCell ⟨gh, k * 13 + 8 + 3, none⟩ (.int .u64 x)).setCell ⟨gh, k * 13 + 8 + 4, none⟩ (.slice A li.length cap)) H nh hc (h.set k ⟨c.me, c.k, c.u, c.v, c.x, c.era, c.fr, c.to, e, i, n, x, li, A, cap⟩) G ng g ga ats go ov gu outs := by
  have gt : ∀ (l : List Cl) (a b : Cl), l[k]? = some a → (l.set k b)[k]? = some b := fun l a b hl => by rw [List.getElem?_set, if_pos rfl, if_pos (List.getElem?_eq_some_iff.1 hl).1]
  have m1 := m.setH hH (k * 13 + 8) _ (List.length_set ..) (flatC_set h (c' := ⟨c.me, c.k, c.u, c.v, c.x, c.era, c.fr, c.to, e, c.is, c.n, c.w, c.list, c.A, c.cap⟩) (k := 8) (u := .int .i64 e) hk (by decide) rfl)
  have h1 := gt h _ ⟨c.me, c.k, c.u, c.v, c.x, c.era, c.fr, c.to, e, c.is, c.n, c.w, c.list, c.A, c.cap⟩ hk
  have m2 := m1.setH hH (k * 13 + 8 + 1) _ (List.length_set ..) (flatC_set _ (c' := ⟨c.me, c.k, c.u, c.v, c.x, c.era, c.fr, c.to, e, i, c.n, c.w, c.list, c.A, c.cap⟩) (k := 9) (u := .bool i) h1 (by decide) rfl)
  have h2 := gt _ _ ⟨c.me, c.k, c.u, c.v, c.x, c.era, c.fr, c.to, e, i, c.n, c.w, c.list, c.A, c.cap⟩ h1
  have m3 := m2.setH hH (k * 13 + 8 + 2) _ (List.length_set ..) (flatC_set _ (c' := ⟨c.me, c.k, c.u, c.v, c.x, c.era, c.fr, c.to, e, i, n, c.w, c.list, c.A, c.cap⟩) (k := 10) (u := .int .i64 n) h2 (by decide) rfl)
  have h3 := gt _ _ ⟨c.me, c.k, c.u, c.v, c.x, c.era, c.fr, c.to, e, i, n, c.w, c.list, c.A, c.cap⟩ h2
  have m4 := m3.setH hH (k * 13 + 8 + 3) _ (List.length_set ..) (flatC_set _ (c' := ⟨c.me, c.k, c.u, c.v, c.x, c.era, c.fr, c.to, e, i, n, x, c.list, c.A, c.cap⟩) (k := 11) (u := .int .u64 x) h3 (by decide) rfl)
  have h4 := gt _ _ ⟨c.me, c.k, c.u, c.v, c.x, c.era, c.fr, c.to, e, i, n, x, c.list, c.A, c.cap⟩ h3
  have m5 := m4.setH hH (k * 13 + 8 + 4) _ (List.length_set ..) (flatC_set _ (c' := ⟨c.me, c.k, c.u, c.v, c.x, c.era, c.fr, c.to, e, i, n, x, li, A, cap⟩) (k := 12) (u := .slice A li.length cap) h4 (by decide) rfl)
  simp only [List.set_set] at m5
  exact m5
end
end Go.Proofs.YtpdfmfkoopdfgaaGreatDoor
end
section
namespace Go.Proofs.YtpdfmfkoopdfgaaGreatDoor
set_option maxRecDepth 100000
open Go.RowKit Aid Gr Hs LinP HeapP

theorem chain_code {fs : List Int} : ∀ (k : Nat) {ps : List Pt}, ps.length ≤ k → PsGood ps fs → ∀ {P : List Arc → Prop} {Bs : (Int → Nat) → List Arc → Prop}, BaseP fs ps P Bs → ∃ Bs', BaseP fs [] (fun g' => ∃ g, P g ∧ Chain ps g g') Bs'
  | k, [], _, _, P, Bs, hB => ⟨Bs, hB.stay, hB.one, fun g' h => by
    obtain ⟨g1, h1, h2⟩ := h
    cases h2 with
    | done => exact hB.all _ h1
    | era h _ _ => exact absurd rfl h⟩
  | 0, p :: ps, h, _, _, _, _ => by simp at h
  | k + 1, p :: ps0, h, hP, P, Bs, hB => by
    have hne : p :: ps0 ≠ [] := by simp
    generalize p :: ps0 = ps at *
    have hpos := eraLen_pos hne
    obtain ⟨B1, h1⟩ := code_next hP hne hB
    obtain ⟨B2, h2⟩ := chain_code k (ps := ps.drop (eraLen ps)) (by rw [List.length_drop]; omega) (hP.sub (List.drop_sublist _ _)) h1
    refine ⟨B2, h2.stay, h2.one, fun g' hg => h2.all g' ?_⟩
    obtain ⟨g, hp, hc⟩ := hg
    cases hc with
    | done => exact absurd rfl hne
    | era _ ho hr => exact ⟨_, ⟨g, hp, ho⟩, hr⟩
theorem ends_bound {l : List Cl} (h : HistIn l) {g : List Arc} {L : List (List Arc)} (hn : L.Nodup) (hm : ∀ x ∈ L, Ends l g x) : L.length ≤ 1000000000000 := by
  have hP := h.points
  obtain ⟨Bs, hB⟩ := chain_code (fs := l.map fun c => c.fr) _ (Nat.le_refl _) hP (P := fun x => x = g) (Bs := fun _ x => x = g) ⟨fun _ _ _ h _ => h, fun _ _ _ _ h1 h2 _ => h1.trans h2.symm, fun x hx => ⟨fun _ => 0, fun _ => Nat.zero_le _, hx⟩⟩
  exact few_graphs hB hP.few L hn (fun x hx => ⟨g, rfl, (hm x hx).2⟩)
end Go.Proofs.YtpdfmfkoopdfgaaGreatDoor
end
