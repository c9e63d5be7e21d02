/- Laws of the bundles that only these texts name. -/
import Derived.Test.YtpdfmfkoopdfgaaGreatDoorB33
import Derived.Test.YtpdfmfkoopdfgaaGreatDoorB34
import Derived.Test.YtpdfmfkoopdfgaaGreatDoorB48
set_option linter.unusedVariables false
set_option linter.unusedSimpArgs false
section
namespace Go.Proofs.YtpdfmfkoopdfgaaGreatDoor
set_option maxRecDepth 100000
open Go.RowKit Aid Gr Hs LinP HeapP
theorem mem_ptAt {ps : List Pt} {p : Pt} (h : p ∈ ps) : ∃ i, i < ps.length ∧ ptAt ps i = p := by
  obtain ⟨i, hi, he⟩ := List.getElem_of_mem h
  refine ⟨i, hi, ?_⟩
  have := ptAt_some hi
  rw [List.getElem?_eq_getElem hi, he] at this
  exact (Option.some.inj this).symm
end Go.Proofs.YtpdfmfkoopdfgaaGreatDoor
end
section
namespace Go.Proofs.YtpdfmfkoopdfgaaGreatDoor
set_option maxRecDepth 100000
open Go.RowKit Aid Gr Hs LinP HeapP
theorem foldG_append : ∀ (ws vs : List Pt) (g : List Arc), foldG g (ws ++ vs) = foldG (foldG g ws) vs
  | [], _, _ => rfl
  | p :: ws, vs, g => foldG_append ws vs (doG g (opOf p))
theorem fits_append : ∀ (ws vs : List Pt) (g : List Arc), Fits g (ws ++ vs) ↔ Fits g ws ∧ Fits (foldG g ws) vs
  | [], _, _ => by simp [Fits, foldG]
  | p :: ws, vs, g => by
    rw [List.cons_append, Fits, Fits, foldG, fits_append ws vs]
    exact and_assoc.symm
theorem ptAt_inj {qs : List Pt} (hn : qs.Nodup) {i j : Nat} (hi : i < qs.length) (hj : j < qs.length) (h : ptAt qs i = ptAt qs j) : i = j := by
  have ei := ptAt_some hi
  have ej := ptAt_some hj
  rw [List.getElem?_eq_getElem hi] at ei
  rw [List.getElem?_eq_getElem hj] at ej
  have e : qs[i] = qs[j] := by rw [Option.some.inj ei, Option.some.inj ej]; exact h
  have hp := List.pairwise_iff_getElem.1 (List.nodup_iff_pairwise_ne.1 hn)
  rcases Nat.lt_trichotomy i j with q | q | q
  · exact absurd e (hp i j hi hj q)
  · exact q
  · exact absurd e.symm (hp j i hj hi q)
theorem line_steps {qs : List Pt} (hn : qs.Nodup) (e : Int) (he : ∀ p ∈ qs, p.era = e) {ws : List Pt} {g0 : List Arc} (hL : Lined qs ws g0) : ∀ (rest dn : List Pt) (g : List Arc) (d : List Bool), ws = dn ++ rest → d.length = qs.length → (∀ i, i < qs.length → (isD d i = true ↔ ptAt qs i ∈ dn)) → Fits g rest →
    ∃ d', LinP.Steps (sysOf qs) g d (foldG g rest) d' ∧ Full (sysOf qs) d'
  | [], dn, g, d, hw, hl, hd, _ => by
    refine ⟨d, .refl _ _, fun i hi hm => ?_⟩
    rw [hd i hi]
    have := hL.must _ (ptAt_mem hi) hm
    rw [hw, List.append_nil] at this
    exact this
  | p :: rest, dn, g, d, hw, hl, hd, hf => by
    have hp : p ∈ ws := by rw [hw]; simp
    obtain ⟨i, hi, hpi⟩ := mem_ptAt (hL.sub p hp)
    have hnd := hL.nodup
    rw [hw, List.pairwise_append] at hnd
    have hno : p ∉ dn := fun q => hnd.2.2 p q p (List.mem_cons_self ..) rfl
    have hdi : isD d i = false := by
      cases hq : isD d i
      · rfl
      · have := (hd i hi).1 hq
        rw [hpi] at this
        exact absurd this hno
    have hil : i < d.length := by omega
    obtain ⟨d', h1, h2⟩ := line_steps hn e he hL rest (dn ++ [p]) (doG g (opOf p)) (d.set i true) (by rw [hw]; simp) (by rw [List.length_set]; exact hl) (fun j hj => by
      rw [isD_set hil, List.mem_append, List.mem_singleton]
      by_cases hij : i = j
      · subst hij; simp [hpi]
      · rw [if_neg hij, hd j hj]
        constructor
        · exact .inl
        · rintro (q | q)
          · exact q
          · exact absurd (ptAt_inj hn hi hj (by rw [hpi, q])) hij) hf.2
    refine ⟨d', ?_, h2⟩
    refine .step i hi hdi (fun k hk hdk hm hki h0 h3 => ?_) ?_ ?_
    · have hk' : k < qs.length := hk
      have hmk : (ptAt qs k).must = true := hm
      have hkw := hL.must _ (ptAt_mem hk') hmk
      have hkn : ptAt qs k ∉ dn := fun q => by rw [(hd k hk').2 q] at hdk; cases hdk
      rw [hw] at hkw
      rcases List.mem_append.1 hkw with q | q
      · exact hkn q
      · rcases List.mem_cons.1 q with q | q
        · exact hki (ptAt_inj hn hk' hi (by rw [q, hpi]))
        · have ho := hL.ord
          rw [hw, List.pairwise_append] at ho
          have h4 := (List.pairwise_cons.1 ho.2.1).1 _ q (by rw [he p (hL.sub p hp), he _ (ptAt_mem hk')])
          have h5 : (ptAt qs k).to < p.fr := by rw [← hpi]; exact h3
          exact h4 ⟨hmk, h0, h5⟩
    · rw [fit_sys, hpi]
      unfold fitP
      cases hm : p.must
      · rfl
      · rw [hf.1 hm]; rfl
    · show LinP.Steps (sysOf qs) (doG g (opOf (ptAt qs i))) _ _ _
      rw [hpi]
      exact h1
theorem ord_line {qs : List Pt} (hn : qs.Nodup) (e : Int) (he : ∀ p ∈ qs, p.era = e) {ws : List Pt} {g : List Arc} (hL : Lined qs ws g) : LinP.Ord (sysOf qs) g (foldG g ws) :=
  line_steps hn e he hL ws [] g (zeros (sysOf qs)) rfl (List.length_replicate ..) (fun i _ => by
    have : isD (zeros (sysOf qs)) i = false := isD_none _ _
    rw [this]; simp) hL.fit
theorem era_drop {ps : List Pt} (hs : ps.Pairwise fun p q => p.era ≤ q.era) (hps : ps ≠ []) : ∀ p ∈ ps.drop (eraLen ps), (ps.headD ptD).era < p.era := by
  intro q hq
  obtain ⟨j, hj, hjq⟩ := List.getElem_of_mem hq
  rw [List.length_drop] at hj
  rw [List.getElem_drop] at hjq
  have h0 : eraLen ps < ps.length := by omega
  have hne : (ps[eraLen ps]'h0).era ≠ (ps.headD ptD).era := by
    have : ∀ n (hn : n < ps.length), n = eraLen ps → (ps[n]'hn).era ≠ (ps.headD ptD).era := by
      intro n hn e
      unfold eraLen at e
      split at e
      · rename_i k hk
        obtain ⟨hk1, hk2, hk3⟩ := List.findIdx?_eq_some_iff_getElem.1 hk
        subst e
        simpa using hk2
      · omega
    exact this _ h0 rfl
  have hhead : (ps.headD ptD).era = (ps[0]'(by omega)).era := by
    cases ps with
    | nil => exact absurd rfl hps
    | cons a l => rfl
  have hpw := List.pairwise_iff_getElem.1 hs
  have p0 : 0 < eraLen ps := eraLen_pos hps
  have h1 := hpw 0 (eraLen ps) (by omega) h0 p0
  rcases Nat.eq_zero_or_pos j with rfl | q0
  · simp only [Nat.add_zero] at hjq
    rw [hjq] at hne h1
    omega
  · have h2 := hpw (eraLen ps) (eraLen ps + j) h0 (by omega) (by omega)
    rw [hjq] at h2
    omega
theorem chain_line : ∀ (n : Nat) {ps : List Pt}, ps.length ≤ n → ps.Nodup → ps.Pairwise (fun p q => p.era ≤ q.era) → ∀ {ws : List Pt} {g : List Arc}, Lined ps ws g → Chain ps g (foldG g ws)
  | n, [], _, _, _, ws, g, hL => by
    cases ws with
    | nil => exact .done g
    | cons p ws => have := hL.sub p (List.mem_cons_self ..); cases this
  | 0, p :: ps, h, _, _, ws, g, hL => by simp at h
  | n + 1, p0 :: ps0, h, hn, he, ws, g, hL => by
    have hps : p0 :: ps0 ≠ [] := by simp
    generalize p0 :: ps0 = ps at *
    have hpos := eraLen_pos hps
    have h1 : ∀ p ∈ ws.takeWhile (fun p => decide (p.era = (ps.headD ptD).era)), p.era = (ps.headD ptD).era := fun p hp => by
      have := List.all_eq_true.1 (List.all_takeWhile (l := ws) (p := fun p => decide (p.era = (ps.headD ptD).era))) p hp
      simpa using this
    have hge : ∀ p ∈ ws, (ps.headD ptD).era ≤ p.era := fun p hp => by
      have hm := hL.sub p hp
      rw [← List.take_append_drop (eraLen ps) ps] at hm
      rcases List.mem_append.1 hm with q | q
      · rw [era_take p q]; exact Int.le_refl _
      · have := era_drop he hps p q; omega
    have h2 : ∀ p ∈ ws.dropWhile (fun p => decide (p.era = (ps.headD ptD).era)), (ps.headD ptD).era < p.era := by
      have hpw := hL.eras
      have hge' := hge
      clear h1 hge hL
      induction ws with
      | nil => intro p hp; cases hp
      | cons a ws ih =>
        have ha := List.pairwise_cons.1 hpw
        by_cases q : a.era = (ps.headD ptD).era
        · rw [List.dropWhile_cons_of_pos (by simpa using q)]
          exact ih ha.2 (fun p hp => hge' p (List.mem_cons_of_mem _ hp))
        · rw [List.dropWhile_cons_of_neg (by simpa using q)]
          intro p hp
          have h3 := hge' a (List.mem_cons_self ..)
          rcases List.mem_cons.1 hp with rfl | hp
          · omega
          · have := ha.1 p hp; omega
    have hsplit : ws = ws.takeWhile (fun p => decide (p.era = (ps.headD ptD).era)) ++ ws.dropWhile (fun p => decide (p.era = (ps.headD ptD).era)) := List.takeWhile_append_dropWhile.symm
    generalize ws.takeWhile (fun p => decide (p.era = (ps.headD ptD).era)) = w1 at *
    generalize ws.dropWhile (fun p => decide (p.era = (ps.headD ptD).era)) = w2 at *
    subst hsplit
    obtain ⟨f1, f2⟩ := (fits_append w1 w2 g).1 hL.fit
    have hn1 := List.pairwise_append.1 hL.nodup
    have he1 := List.pairwise_append.1 hL.eras
    have ho1 := List.pairwise_append.1 hL.ord
    have mem1 : ∀ p ∈ ps, p.era = (ps.headD ptD).era → p ∈ ps.take (eraLen ps) := fun p hp hq => by
      rw [← List.take_append_drop (eraLen ps) ps] at hp
      rcases List.mem_append.1 hp with q | q
      · exact q
      · have := era_drop he hps p q; omega
    have mem2 : ∀ p ∈ ps, p.era ≠ (ps.headD ptD).era → p ∈ ps.drop (eraLen ps) := fun p hp hq => by
      rw [← List.take_append_drop (eraLen ps) ps] at hp
      rcases List.mem_append.1 hp with q | q
      · exact absurd (era_take p q) hq
      · exact q
    have L1 : Lined (ps.take (eraLen ps)) w1 g := ⟨fun p hp => mem1 p (hL.sub p (List.mem_append_left _ hp)) (h1 p hp), hn1.1, fun p hp hm => by
      rcases List.mem_append.1 (hL.must p (List.mem_of_mem_take hp) hm) with q | q
      · exact q
      · have h3 := h2 p q
        rw [era_take p hp] at h3; omega, he1.1, ho1.1, f1⟩
    have L2 : Lined (ps.drop (eraLen ps)) w2 (foldG g w1) := ⟨fun p hp => mem2 p (hL.sub p (List.mem_append_right _ hp)) (by have := h2 p hp; omega), hn1.2.1, fun p hp hm => by
      rcases List.mem_append.1 (hL.must p (List.mem_of_mem_drop hp) hm) with q | q
      · have h3 := h1 p q
        have := era_drop he hps p hp
        omega
      · exact q, he1.2.1, ho1.2.1, f2⟩
    rw [foldG_append]
    refine .era hps (ord_line (hn.sublist (List.take_sublist _ _)) _ era_take L1) (chain_line n ?_ (hn.sublist (List.drop_sublist _ _)) (he.sublist (List.drop_sublist _ _)) L2)
    rw [List.length_drop]; omega
end Go.Proofs.YtpdfmfkoopdfgaaGreatDoor
end
section
namespace Go.Proofs.YtpdfmfkoopdfgaaGreatDoor
set_option maxRecDepth 100000
open Go.RowKit Go.ChangeShapes Go.WideShapes Aid Gr Hs
variable {H : Type} {enc : TypeId × Value → H} {w : World} {base : Nat} {spare : Nat → Bool} {held : Bool}
theorem cells50 : Tryz.prog.cellsOf 50 = 8 := by kernel_rfl
theorem cells22 : Tryz.prog.cellsOf 22 = 1 := by kernel_rfl
theorem cells23 : Tryz.prog.cellsOf 23 = 1 := by kernel_rfl
theorem list8 {α : Type} {l : List α} (h : l.length = 8) : ∃ a b c d e f g i, l = [a, b, c, d, e, f, g, i] := by
  match l, h with
  | [a, b, c, d, e, f, g, i], _ => exact ⟨a, b, c, d, e, f, g, i, rfl⟩
/-- An operation's four cells. -/
theorem open_op {n : Nat} {cs : List Value} {x : DataW H × List MemPlace} (h : DataW.trod enc Tryz.prog w base spare held n 38 cs = some x) : ∃ o : Gr.Op, o.Fine ∧ cs = [.int .i64 o.k, .int .i64 o.u, .int .i64 o.v, .int .u64 o.w] := by
  obtain ⟨xs, k, rfl, _, hlen, hxl, hf⟩ := DataW.trod_struct Tryz.underlying38 h
  rw [Hs.cellsOf30] at hlen
  match cs, hlen, xs, hxl with
  | [c0, c1, c2, c3], _, [y0, y1, y2, y3], _ =>
    have g0 := hf 0 _ rfl
    have g1 := hf 1 _ rfl
    have g2 := hf 2 _ rfl
    have g3 := hf 3 _ rfl
    simp [Gr.cellsOf3, Hs.cellsOf25] at g0 g1 g2 g3
    obtain ⟨u0, e0, _, w0⟩ := DataW.trod_int Tryz.underlying3 g0
    obtain ⟨u1, e1, _, w1⟩ := DataW.trod_int Tryz.underlying3 g1
    obtain ⟨u2, e2, _, w2⟩ := DataW.trod_int Tryz.underlying3 g2
    obtain ⟨u3, e3, _, w3⟩ := DataW.trod_int Tryz.underlying36 g3
    simp at e0 e1 e2 e3
    subst e0 e1 e2 e3
    have b0 := bounds_i64 w0
    have b1 := bounds_i64 w1
    have b2 := bounds_i64 w2
    have b3 := bounds_u64 w3
    exact ⟨⟨u0, u1, u2, u3⟩, ⟨by simp only; omega, by simp only; omega, by simp only; omega, by simp only; omega, by simp only; omega, by simp only; omega, by simp only; omega, by simp only; omega⟩, rfl⟩
theorem open_wider {r : Go.Reach} {b0 : Nat} {v : Value} {d : DataW H} {p : List MemPlace} (hv : Value.okWide Tryz.prog w r b0 50 v) (h : DataW.Trod enc Tryz.prog w base spare held 50 v d p) :
    ∃ (G : Option Addr) (gc : Nat) (g : List Arc) (A : Option Addr) (c : Nat) (l : List Cl) (a b : Int) (o : Gr.Op), v = .agg #[.slice G g.length gc, .slice A l.length c, .int .u8 a, .int .u8 b, .int .i64 o.k, .int .i64 o.u, .int .i64 o.v, .int .u64 o.w] ∧ Arcs w G g ∧ Cls w A l ∧ (∀ a ∈ l, a.Fits) ∧ l.length ≤ c ∧ c ≤ 9223372036854775807 ∧ (0 ≤ a ∧ a < 256) ∧ (0 ≤ b ∧ b < 256) ∧ o.Fine := by
  obtain ⟨cs, rfl, hsz⟩ := okWide_struct Tryz.underlying50 hv
  obtain ⟨n, hf⟩ := h
  obtain ⟨xs, k, rfl, _, hlen, hxl, hg⟩ := DataW.trod_struct Tryz.underlying50 hf
  rw [cells50] at hsz
  obtain ⟨c0, c1, c2, c3, c4, c5, c6, c7, hcs⟩ := list8 (l := cs.toList) (by simpa using hsz)
  have hcs' : cs = #[c0, c1, c2, c3, c4, c5, c6, c7] := by rw [← Array.toArray_toList (xs := cs), hcs]
  subst hcs'
  obtain ⟨y0, y1, y2, y3, y4, rfl⟩ := list5 hxl
  have g0 := hg 0 _ rfl
  have g1 := hg 1 _ rfl
  have g2 := hg 2 _ rfl
  have g3 := hg 3 _ rfl
  have g4 := hg 4 _ rfl
  simp [cells22, cells23, cells5, Hs.cellsOf30, Value.cells] at g0 g1 g2 g3 g4
  obtain ⟨G, gc, g, e0, hG⟩ := Gr.open_arcs g0
  obtain ⟨A, c, l, e1, h1, h2, h3, hA⟩ := Hs.open_calls g1
  obtain ⟨a2, e2, _, w2⟩ := DataW.trod_int Tryz.underlying5 g2
  obtain ⟨a3, e3, _, w3⟩ := DataW.trod_int Tryz.underlying5 g3
  obtain ⟨o, ho, e4⟩ := open_op g4
  simp at e0 e1 e2 e3 e4
  obtain ⟨rfl, rfl, rfl, rfl⟩ := e4
  subst e0 e1 e2 e3
  have b2 := bounds_u8 w2
  have b3 := bounds_u8 w3
  exact ⟨G, gc, g, A, c, l, a2, a3, o, rfl, hG, hA, h3, h1, h2, by omega, by omega, ho⟩
end Go.Proofs.YtpdfmfkoopdfgaaGreatDoor
end
