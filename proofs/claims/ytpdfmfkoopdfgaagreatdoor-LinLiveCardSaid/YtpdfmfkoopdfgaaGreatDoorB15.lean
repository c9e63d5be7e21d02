/- GDel, GClos. -/
import Derived.Test.YtpdfmfkoopdfgaaGreatDoorB13
import Derived.Test.YtpdfmfkoopdfgaaGreatDoorB14
set_option linter.unusedVariables false
set_option linter.unusedSimpArgs false
section
namespace Go.Proofs.YtpdfmfkoopdfgaaGreatDoor.Gr
set_option maxRecDepth 100000
open Go.RowKit Aid

theorem run_clear_k {P : Program} (w : World) (t e ty : TypeId) (z : Value) (ht : P.underlying t = some (.slice e)) (hv : ∀ w, (zeroValue e).run P w = .ok z w) (b o n c : Nat) (hn : 0 < n)
    (htt : w.there b o (Builtin.zeroCells z.cells n).toList.length) (h1 : ∀ v ∈ (Builtin.zeroCells z.cells n).toList, v.oneCell' = true) :
    (Builtin.clear_ #[t] ty #[.slice (some ⟨b, o, none⟩) n c]).run P w = .ok (.tuple #[]) (w.setCells b o (Builtin.zeroCells z.cells n).toList) := by
  have hst := run_storeCells_cells (P := P) b o (Builtin.zeroCells z.cells n).toList 0 w (by simpa using fun j hj => (htt j (by simpa using hj)).1) (by simpa using fun j hj => (htt j (by simpa using hj)).2) h1
  simp only [Nat.add_zero] at hst
  obtain ⟨m, rfl⟩ : ∃ m, n = m + 1 := ⟨n - 1, by omega⟩
  simp [Builtin.clear_, run_underlying ht, hv, hst]
theorem keepRange {B : Nat} {w w' : World} (hb : Below B w w') {g o : Nat} {xs : List Value} (hg : g < B) (h : w.rangeAt g o xs) : w'.rangeAt g o xs := fun j v hj => (hb.cell (p := ⟨g, o + j, none⟩) hg).trans (h j v hj)
theorem keepThere {B : Nat} {w w' : World} (hb : Below B w w') {g o n : Nat} (hg : g < B) (h : w.there g o n) : w'.there g o n := fun j hj => by
  refine ⟨by rw [hb.cell (p := ⟨g, o + j, none⟩) hg]; exact (h j hj).1, ?_⟩
  have := (h j hj).2
  unfold World.frozen? at this ⊢
  simp only [] at this ⊢
  rw [hb.block g hg]
  exact this
theorem zeros_one (k : Nat) : ∀ v ∈ (Builtin.zeroCells (Value.agg #[.int .i64 0, .int .i64 0, .int .u64 0]).cells k).toList, v.oneCell' = true := fun v hv => by
  rw [Array.mem_toList_iff] at hv
  unfold Builtin.zeroCells at hv
  obtain ⟨i, _, rfl⟩ := Array.mem_map.1 hv
  have h3 : i % 3 = 0 ∨ i % 3 = 1 ∨ i % 3 = 2 := by omega
  simp only [Value.cells]
  show (#[Value.int .i64 0, .int .i64 0, .int .u64 0][i % 3]!).oneCell' = true
  rcases h3 with h | h | h <;> rw [h] <;> rfl
/-- What stays: rows of which p does not hold. -/
def kept (l : List Arc) (p : Arc → Bool) : List Arc := l.filter fun a => !p a
theorem kept_next {l : List Arc} {p : Arc → Bool} {k : Nat} (h : k < l.length) : kept (l.take (k + 1)) p = kept (l.take k) p ++ (if p l[k] then [] else [l[k]]) := by
  unfold kept
  rw [List.take_succ_eq_append_getElem h, List.filter_append]
  congr 1
  cases hx : p l[k] <;> simp [hx]
theorem kept_le (l : List Arc) (p : Arc → Bool) : (kept l p).length ≤ l.length := List.length_filter_le _ _
theorem kept_mem {l : List Arc} {p : Arc → Bool} {a : Arc} (h : a ∈ kept l p) : a ∈ l := (List.mem_filter.1 h).1
theorem firstI_none {l : List Arc} {p : Arc → Bool} (h : firstI l p = -1) : kept l p = l := by
  unfold firstI at h
  cases hq : l.findIdx? p with
  | some i => rw [hq] at h; simp at h
  | none =>
    rw [List.findIdx?_eq_none_iff] at hq
    exact List.filter_eq_self.2 fun a ha => by simp [hq a ha]
theorem firstI_some {l : List Arc} {p : Arc → Bool} (h : firstI l p ≠ -1) : ∃ k : Nat, firstI l p = (k : Int) ∧ k < l.length ∧ kept (l.take k) p = l.take k ∧ kept (l.take (k + 1)) p = l.take k := by
  unfold firstI at h ⊢
  cases hq : l.findIdx? p with
  | none => rw [hq] at h; exact absurd rfl h
  | some i =>
    rw [List.findIdx?_eq_some_iff_getElem] at hq
    obtain ⟨hi, hp, hn⟩ := hq
    have h0 : kept (l.take i) p = l.take i := List.filter_eq_self.2 fun a ha => by
      obtain ⟨k, hk, hka⟩ := List.getElem_of_mem ha
      rw [List.length_take] at hk
      rw [List.getElem_take] at hka
      have := hn k (by omega)
      subst hka
      simpa using this
    refine ⟨i, rfl, hi, h0, ?_⟩
    rw [kept_next hi, h0, if_pos hp, List.append_nil]
set_option maxHeartbeats 4000000 in
set_option maxRecDepth 100000 in
theorem delete_any (gf : Nat) (lb : Array Value) (eg : ∀ args w, (callFunc gf args).run Tryz.prog w = .ok (.enter gf args) w) (p : Arc → Bool) (w0 : World) (A : Option Addr) (c n : Nat) (l : List Arc) (w : World) (hn : n = l.length) (h40 : l.length ≤ 1000) (hf : ∀ a ∈ l, a.Fine)
    (ho : w.ownsRow w0.heap.size 60 3 (.slice A n c) n (flat l)) (hb : Below w0.heap.size w0 w) (hp : Says gf lb p w0) :
    Calls Tryz.prog 141 #[.slice A n c, .func (.func gf) #[] lb] w fun e w' => ∃ B d, e = .returned (.slice B (kept l p).length d) ∧ Arcs w' B (kept l p) ∧ Below w0.heap.size w0 w' := by
  subst hn
  have hA := own_arcs (by omega) hf ho
  have hI := Lib.hid (index_any gf lb eg p A c l.length l w rfl hA h40 (hp.later hb))
  by_cases hq : firstI l p = -1
  · rw [hq] at hI
    have hk := Lib.hid (firstI_none hq)
    have HA := Lib.hid hA
    have HBw := Lib.hid hb
    clear hq ho hA hb
    go_enter Tryz.func141, Tryz.ntmps141
    go_wp2_with (go_at_call 155; ((with_reducible refine hI.out.mono ?_); rintro e w' ⟨rfl, hb'⟩; have HB := Lib.hid hb'; clear hb'))
    go_ret
    exact ⟨A, c, by rw [hk.out]; rfl, by rw [hk.out]; exact HA.out.below HB.out (Nat.le_refl _), HBw.out.trans (HB.out.mono HBw.out.size)⟩
  · obtain ⟨k, hk, hkl, hk0, hk1⟩ := firstI_some hq
    rw [hk] at hI
    rcases own_any3 ho with ⟨hv, hn⟩ | ⟨g, c', hv⟩
    · omega
    injection hv with hA' _ hc'
    subst hA' hc'
    obtain ⟨h1, h2, h3, h4, h5, h6, h7⟩ := own_range ho
    have hgw : g < w.heap.size := (ho.lt g rfl).2
    have HP := Lib.hid hp
    have HBw := Lib.hid hb
    have H5 := Lib.hid h5
    have H6 := Lib.hid h6
    have HF := Lib.hid hf
    clear hq hA ho hp hb h5 h6 h7 h4 hf
    unfold maxLen at h3
    go_enter Tryz.func141, Tryz.ntmps141
    go_wp2_with (go_at_call 155; ((with_reducible refine hI.out.mono ?_); rintro e w' ⟨rfl, hb'⟩; have HB := Lib.hid hb'; clear hb'))
    have HS : Hid ((kept (l.take (k + 1)) p).length < k + 1 ∧ w'.rangeAt g 0 (flat (kept (l.take (k + 1)) p)) ∧ w'.rangeAt g ((k + 1) * 3) (flat (l.drop (k + 1))) ∧ w'.there g 0 (c * 3) ∧ Below w0.heap.size w0 w') := by
      have q1 : flat l = flat (l.take (k + 1)) ++ flat (l.drop (k + 1)) := by rw [← flat_append, List.take_append_drop]
      have q2 : flat l = flat (l.take k) ++ flat (l.drop k) := by rw [← flat_append, List.take_append_drop]
      have e1 : (flat (l.take (k + 1))).length = (k + 1) * 3 := by rw [flat_length, List.length_take]; omega
      have r := H5.out
      refine Lib.hid ⟨by rw [hk1, List.length_take]; omega, ?_, ?_, keepThere HB.out hgw H6.out, HBw.out.trans (HB.out.mono HBw.out.size)⟩
      · rw [hk1]
        rw [q2] at r
        exact keepRange HB.out hgw (range_left r)
      · rw [q1] at r
        have := range_right r
        rw [e1, Nat.zero_add] at this
        exact keepRange HB.out hgw this
    have hkk : (kept (l.take (k + 1)) p).length = k := by rw [hk1, List.length_take]; omega
    have hgB : g < w'.heap.size := Nat.lt_of_lt_of_le hgw HB.out.size
    clear HB H5 H6 hk0 hk1 hI HBw
    go_loopw [5, 6] (fun iv jv wr => ∃ i j : Nat, j ≤ l.length ∧ iv = .int .i64 i ∧ jv = .int .i64 j ∧ i = (kept (l.take j) p).length ∧ i < j ∧ wr.rangeAt g 0 (flat (kept (l.take j) p)) ∧ wr.rangeAt g (j * 3) (flat (l.drop j)) ∧ wr.there g 0 (c * 3) ∧ Below w0.heap.size w0 wr ∧ g < wr.heap.size) (fun _ j _ => l.length - (intOf j).toNat)
    case atStart =>
      obtain ⟨x1, x2, x3, x4, x5⟩ := HS.out
      exact ⟨k, k + 1, by omega, rfl, by go_num, hkk.symm, by omega, x2, x3, x4, x5, hgB⟩
    case round =>
      obtain ⟨i, j, hj, rfl, rfl, hil, hij, r1, r2, r3, hb, hgr⟩ := hrel
      have R1 := Lib.hid r1
      have R3 := Lib.hid r3
      have HB := Lib.hid hb
      have IL := Lib.hid hil
      clear r1 r3 hb hil HS
      by_cases hlt : j < l.length
      · obtain ⟨x, hx⟩ : ∃ x, x = l[j] := ⟨_, rfl⟩
        have hd : l.drop j = x :: l.drop (j + 1) := by rw [hx]; exact List.drop_eq_getElem_cons hlt
        rw [hd] at r2
        have c1 := r2 0 _ rfl
        have c2 := r2 1 _ rfl
        have c3 := r2 2 _ rfl
        rw [Nat.add_zero] at c1
        have R2 : Hid (wr.rangeAt g ((j + 1) * 3) (flat (l.drop (j + 1)))) := Lib.hid (fun t v ht => by
          have := r2 (t + 3) v ht
          rwa [show j * 3 + (t + 3) = (j + 1) * 3 + t from by omega] at this)
        have HN := Lib.hid (kept_next (p := p) hlt)
        rw [← hx] at HN
        have HA := Lib.hid ((Below.refl wr.heap.size wr).alloc (Nat.le_refl _) (.cells #[.int .i64 x.u, .int .i64 x.v, .int .u64 x.w] 60))
        have hcall := Lib.hid (HP.out (wr.alloc (.cells #[.int .i64 x.u, .int .i64 x.v, .int .u64 x.w] 60)) x (HB.out.alloc HB.out.size _))
        unfold Arc.val at hcall
        have d1 : (wr.alloc (.cells #[.int .i64 x.u, .int .i64 x.v, .int .u64 x.w] 60)).cell? ⟨wr.heap.size, 0, none⟩ = some (.int .i64 x.u) := by rw [World.cell?_alloc_new]; rfl
        have d2 : (wr.alloc (.cells #[.int .i64 x.u, .int .i64 x.v, .int .u64 x.w] 60)).cell? ⟨wr.heap.size, 1, none⟩ = some (.int .i64 x.v) := by rw [World.cell?_alloc_new]; rfl
        have d3 : (wr.alloc (.cells #[.int .i64 x.u, .int .i64 x.v, .int .u64 x.w] 60)).cell? ⟨wr.heap.size, 2, none⟩ = some (.int .u64 x.w) := by rw [World.cell?_alloc_new]; rfl
        have hszl : wr.heap.size < (wr.alloc (.cells #[.int .i64 x.u, .int .i64 x.v, .int .u64 x.w] 60)).heap.size := by rw [World.size_alloc]; omega
        have hgs : g < (wr.alloc (.cells #[.int .i64 x.u, .int .i64 x.v, .int .u64 x.w] 60)).heap.size := by omega
        clear r2 hd hx
        cases hq : p x
        · rw [hq] at hcall
          rw [hq, if_neg (by simp)] at HN
          clear hq
          have hkl2 := Lib.hid (kept_le (l.take j) p)
          obtain ⟨y1, hy1⟩ := Option.isSome_iff_exists.1 (R3.out (i * 3) (by omega)).1
          obtain ⟨y2, hy2⟩ := Option.isSome_iff_exists.1 (R3.out (i * 3 + 1) (by omega)).1
          obtain ⟨y3, hy3⟩ := Option.isSome_iff_exists.1 (R3.out (i * 3 + 2) (by omega)).1
          have z1 := (R3.out (i * 3) (by omega)).2
          have z2 := (R3.out (i * 3 + 1) (by omega)).2
          have z3 := (R3.out (i * 3 + 2) (by omega)).2
          rw [Nat.zero_add] at hy1 hy2 hy3 z1 z2 z3
          have T : Hid (∀ w4, Below (wr.alloc (.cells #[.int .i64 x.u, .int .i64 x.v, .int .u64 x.w] 60)).heap.size (wr.alloc (.cells #[.int .i64 x.u, .int .i64 x.v, .int .u64 x.w] 60)) w4 → Below wr.heap.size wr w4) := Lib.hid fun w4 h => HA.out.trans (h.mono HA.out.size)
          have hil2 : (i : Int) < (l.length : Int) := by omega
          have hgf0 : ∀ w4 : World, Below wr.heap.size wr w4 → ∀ o, wr.frozen? ⟨g, o, none⟩ = false → w4.frozen? ⟨g, o, none⟩ = false := fun w4 h o hz => by
            unfold World.frozen? at hz ⊢
            simp only [] at hz ⊢
            rw [h.block g hgr]; exact hz
          have HG := Lib.hid hgf0
          clear hgf0
          go_wp2_with (go_at_fn gf; refine hcall.out.mono ?_; rintro e w4 ⟨rfl, hb'⟩; have HB' := Lib.hid (T.out _ hb'); have f1 := (hb'.cell (p := ⟨wr.heap.size, 0, none⟩) hszl).trans d1; have f2 := (hb'.cell (p := ⟨wr.heap.size, 1, none⟩) hszl).trans d2; have f3 := (hb'.cell (p := ⟨wr.heap.size, 2, none⟩) hszl).trans d3; have g1 := (HB'.out.cell (p := ⟨g, i * 3, none⟩) hgr).trans hy1; have g2 := (HB'.out.cell (p := ⟨g, i * 3 + 1, none⟩) hgr).trans hy2; have g3 := (HB'.out.cell (p := ⟨g, i * 3 + 2, none⟩) hgr).trans hy3; have k1 := HG.out _ HB'.out _ z1; have k2 := HG.out _ HB'.out _ z2; have k3 := HG.out _ HB'.out _ z3; clear hb')
          refine ⟨?_, ?measure⟩
          iterate 23 (apply Exists.intro)
          refine ⟨?rel, rfl⟩
          case rel =>
            have e0 : (((w4.setCell ⟨g, i * 3, none⟩ (.int .i64 x.u)).setCell ⟨g, i * 3 + 1, none⟩ (.int .i64 x.v)).setCell ⟨g, i * 3 + 2, none⟩ (.int .u64 x.w)) = w4.setCells g (i * 3) (flat [x]) := rfl
            rw [e0]
            have q1 := keepRange HB'.out hgr R1.out
            have q2 := keepRange HB'.out hgr R2.out
            have q3 := keepThere HB'.out hgr R3.out
            have el : (flat (kept (l.take j) p)).length = i * 3 := by rw [flat_length, ← IL.out]
            have e3 : (flat [x]).length = 3 := rfl
            refine ⟨i + 1, j + 1, by omega, by go_num, by go_num, ?_, by omega, ?_, World.rangeAt_setCells_apart q2 _ _ _ (.inr (.inr (by omega))), World.there_setCells q3 _ _ _, ?_, ?_⟩
            · rw [HN.out, List.length_append, ← IL.out]; rfl
            · rw [HN.out, flat_append]
              refine range_append (World.rangeAt_setCells_apart q1 _ _ _ (.inr (.inl (by omega)))) ?_
              rw [el, Nat.zero_add]
              exact World.rangeAt_setCells_same _ _ _ _ (there_sub q3 (by omega) (by omega))
            · exact below_set _ h1 _ _ (HB.out.trans (HB'.out.mono HB.out.size))
            · exact Nat.lt_of_lt_of_le hgr (below_set g (Nat.le_refl g) _ _ (HB'.out.mono (Nat.le_of_lt hgr))).size
          case measure => simp [intOf]; omega
        · rw [hq] at hcall
          rw [hq, if_pos rfl, List.append_nil] at HN
          clear hq
          go_wp2_with (go_at_fn gf; refine hcall.out.mono ?_; rintro e w4 ⟨rfl, hb'⟩; have HB' := Lib.hid (HA.out.trans (hb'.mono HA.out.size)); clear hb')
          refine ⟨?_, ?measure⟩
          iterate 23 (apply Exists.intro)
          refine ⟨?rel, rfl⟩
          case rel =>
            exact ⟨i, j + 1, by omega, rfl, by go_num, by rw [HN.out]; exact IL.out, by omega, by rw [HN.out]; exact keepRange HB'.out hgr R1.out, keepRange HB'.out hgr R2.out, keepThere HB'.out hgr R3.out, HB.out.trans (HB'.out.mono HB.out.size), Nat.lt_of_lt_of_le hgr HB'.out.size⟩
          case measure => simp [intOf]; omega
      · have hjl : j = l.length := by omega
        subst hjl
        rw [List.take_length] at R1 IL
        have R2 : Hid True := Lib.hid trivial
        clear r2
        have hz := Lib.hid (zeros_size (l.length - i))
        have hin : i ≤ l.length := by omega
        have hic : ¬ (c = i) := by omega
        have hicc : i ≤ c := by omega
        have hcl : ∀ ty, (Builtin.clear_ #[22] ty #[.slice (some ⟨g, i * 3, none⟩) (l.length - i) (c - i)]).run Tryz.prog wr = .ok (.tuple #[]) (wr.setCells g (i * 3) (Builtin.zeroCells (Value.agg #[.int .i64 0, .int .i64 0, .int .u64 0]).cells (l.length - i)).toList) := fun ty =>
          run_clear_k wr 22 60 ty _ Tryz.underlying22 Tryz.zeroValue60 g (i * 3) (l.length - i) (c - i) (by omega) (there_sub R3.out (by omega) (by rw [Array.length_toList, hz.out]; omega)) (zeros_one _)
        generalize (Builtin.zeroCells (Value.agg #[.int .i64 0, .int .i64 0, .int .u64 0]).cells (l.length - i)).toList = zs at hcl
        go_wp2
        go_ret
        have el : (flat (kept l p)).length = i * 3 := by rw [flat_length, ← IL.out]
        exact ⟨_, c, by rw [← IL.out]; rfl, arcs_range (by rw [← IL.out]; omega) (fun a ha => HF.out a (kept_mem ha)) (World.rangeAt_setCells_apart R1.out _ _ _ (.inr (.inl (by omega)))), below_set _ h1 _ _ HB.out⟩
end Go.Proofs.YtpdfmfkoopdfgaaGreatDoor.Gr
end
section
namespace Go.Proofs.YtpdfmfkoopdfgaaGreatDoor.Gr
set_option maxRecDepth 100000
open Go.RowKit Aid

/-- An operation. -/
structure Op where
  k : Int
  u : Int
  v : Int
  w : Int
def Op.Fine (o : Op) : Prop := -9223372036854775808 ≤ o.k ∧ o.k ≤ 9223372036854775807 ∧ -9223372036854775808 ≤ o.u ∧ o.u ≤ 9223372036854775807 ∧ -9223372036854775808 ≤ o.v ∧ o.v ≤ 9223372036854775807 ∧ 0 ≤ o.w ∧ o.w < 18446744073709551616
def Op.val (o : Op) : Value := .agg #[.int .i64 o.k, .int .i64 o.u, .int .i64 o.v, .int .u64 o.w]
/-- An operation lies in a box. -/
def OpAt (w : World) (b : Nat) (o : Op) : Prop :=
  w.cell? ⟨b, 0, none⟩ = some (.int .i64 o.k) ∧ w.cell? ⟨b, 1, none⟩ = some (.int .i64 o.u) ∧ w.cell? ⟨b, 2, none⟩ = some (.int .i64 o.v) ∧ w.cell? ⟨b, 3, none⟩ = some (.int .u64 o.w)
theorem OpAt.lt {w : World} {b : Nat} {o : Op} (h : OpAt w b o) : b < w.heap.size := World.block_lt_of_cell? w _ h.1
theorem OpAt.below {B : Nat} {w w' : World} {b : Nat} {o : Op} (h : OpAt w b o) (hb : Below B w w') (hB : w.heap.size ≤ B) : OpAt w' b o := by
  have hlt := Nat.lt_of_lt_of_le h.lt hB
  obtain ⟨h1, h2, h3, h4⟩ := h
  exact ⟨(hb.cell (p := ⟨b, 0, none⟩) hlt).trans h1, (hb.cell (p := ⟨b, 1, none⟩) hlt).trans h2, (hb.cell (p := ⟨b, 2, none⟩) hlt).trans h3, (hb.cell (p := ⟨b, 3, none⟩) hlt).trans h4⟩
def ends (o : Op) (a : Arc) : Bool := decide (a.u = o.u ∨ a.v = o.u)
def isE (o : Op) (a : Arc) : Bool := decide (a.u = o.u ∧ a.v = o.v)
theorem do1_any (o : Op) (a : Arc) (b : Nat) (w : World) (h : OpAt w b o) : Calls Tryz.prog 120 #[a.val, .pointer (some ⟨b, 0, none⟩)] w fun e w' => e = .returned (.bool (ends o a)) ∧ Below w.heap.size w w' := by
  have HA := Lib.hid ((Below.refl w.heap.size w).alloc (Nat.le_refl _) (.cells #[.int .i64 a.u, .int .i64 a.v, .int .u64 a.w] 60))
  have ho := h.below HA.out (Nat.le_refl _)
  obtain ⟨_, c1, _, _⟩ := ho
  clear h
  unfold Arc.val
  cases h1 : (a.u == o.u)
  · cases h2 : (a.v == o.u)
    · have hr : ends o a = false := by unfold ends; simp only [beq_eq_false_iff_ne] at h1 h2; simp [h1, h2]
      rw [hr]
      go_enter Tryz.func120, Tryz.ntmps120
      go_wp2
      go_ret
      exact ⟨rfl, HA.out⟩
    · have hr : ends o a = true := by unfold ends; simp only [beq_iff_eq] at h2; simp [h2]
      rw [hr]
      go_enter Tryz.func120, Tryz.ntmps120
      go_wp2
      go_ret
      exact ⟨rfl, HA.out⟩
  · have hr : ends o a = true := by unfold ends; simp only [beq_iff_eq] at h1; simp [h1]
    rw [hr]
    go_enter Tryz.func120, Tryz.ntmps120
    go_wp2
    go_ret
    exact ⟨rfl, HA.out⟩
theorem do2_any (o : Op) (a : Arc) (b : Nat) (w : World) (h : OpAt w b o) : Calls Tryz.prog 123 #[a.val, .pointer (some ⟨b, 0, none⟩)] w fun e w' => e = .returned (.bool (isE o a)) ∧ Below w.heap.size w w' := by
  have HA := Lib.hid ((Below.refl w.heap.size w).alloc (Nat.le_refl _) (.cells #[.int .i64 a.u, .int .i64 a.v, .int .u64 a.w] 60))
  have ho := h.below HA.out (Nat.le_refl _)
  obtain ⟨_, c1, c2, _⟩ := ho
  clear h
  unfold Arc.val
  cases h1 : (a.u == o.u)
  · have hr : isE o a = false := by unfold isE; simp only [beq_eq_false_iff_ne] at h1; simp [h1]
    rw [hr]
    go_enter Tryz.func123, Tryz.ntmps123
    go_wp2
    go_ret
    exact ⟨rfl, HA.out⟩
  · cases h2 : (a.v == o.v)
    · have hr : isE o a = false := by unfold isE; simp only [beq_eq_false_iff_ne] at h2; simp [h2]
      rw [hr]
      go_enter Tryz.func123, Tryz.ntmps123
      go_wp2
      go_ret
      exact ⟨rfl, HA.out⟩
    · have hr : isE o a = true := by unfold isE; simp only [beq_iff_eq] at h1 h2; simp [h1, h2]
      rw [hr]
      go_enter Tryz.func123, Tryz.ntmps123
      go_wp2
      go_ret
      exact ⟨rfl, HA.out⟩
theorem says1 {o : Op} {b : Nat} {w : World} (h : OpAt w b o) : Says 120 #[.pointer (some ⟨b, 0, none⟩)] (ends o) w := fun W a hW => do1_any o a b W (h.below hW (Nat.le_refl _))
theorem says2 {o : Op} {b : Nat} {w : World} (h : OpAt w b o) : Says 123 #[.pointer (some ⟨b, 0, none⟩)] (isE o) w := fun W a hW => do2_any o a b W (h.below hW (Nat.le_refl _))
/-- A function value's call goes to the function. -/
theorem callIn {P : Program} {f : FuncId} {fn : Func} {c : Code} (hf : P.funcs[f]? = some fn) (hname : (fn.name == "runtime.NumGoroutine") = false) (hb : fn.body = some c) (args : Array Value) (w : World) :
    (callFunc f args).run P w = .ok (.enter f args) w := by
  have h1 : fn.name ≠ "runtime.NumGoroutine" := by simpa using hname
  simp [callFunc, hf, h1, hb]
theorem call23 : ∀ args w, (callFunc 120 args).run Tryz.prog w = .ok (.enter 120 args) w := fun args w => callIn Tryz.func120 (by kernel_rfl) rfl args w
theorem call24 : ∀ args w, (callFunc 123 args).run Tryz.prog w = .ok (.enter 123 args) w := fun args w => callIn Tryz.func123 (by kernel_rfl) rfl args w
theorem without_any (gf : Nat) (lb : Array Value) (eg : ∀ args w, (callFunc gf args).run Tryz.prog w = .ok (.enter gf args) w) (p : Arc → Bool) (A : Option Addr) (c n : Nat) (l : List Arc) (w : World) (hn : n = l.length) (hl : Arcs w A l) (h40 : l.length ≤ 1000) (hp : Says gf lb p w) :
    Calls Tryz.prog 119 #[.slice A n c, .func (.func gf) #[] lb] w fun e w' => ∃ B d, e = .returned (.slice B (kept l p).length d) ∧ Arcs w' B (kept l p) ∧ Below w.heap.size w w' := by
  subst hn
  have HC := Lib.hid (clone_any A c l.length l w rfl hl h40)
  have HF := Lib.hid hl.2.1
  have HP := Lib.hid hp
  clear hl hp
  go_enter Tryz.func119, Tryz.ntmps119
  go_wp2_with (first
    | (go_at_call 140; ((with_reducible refine HC.out.mono ?_); rintro e w1 ⟨B, d, rfl, ho, hb⟩; have HD := Lib.hid (delete_any gf lb eg p w B d l.length l w1 rfl h40 HF.out ho hb HP.out); clear ho hb))
    | (go_at_call 141; ((with_reducible refine HD.out.mono ?_); rintro e w2 ⟨B2, d2, rfl, h1, h2⟩; have H1 := Lib.hid h1; have H2 := Lib.hid h2; clear h1 h2)))
  go_ret
  exact ⟨_, _, rfl, H1.out, H2.out⟩
def edgeKind (k : Int) : Bool := decide (k = 14 ∨ k = 15 ∨ k = 16)
def keysB (o : Op) : Bool := if edgeKind o.k then isV o.u && isV o.v else isV o.u
theorem err0 (b : Bool) : (errV b == 0) = b := by unfold errV; cases b <;> rfl
theorem keys_edge (k u v w : Int) (W : World) (hk : k = 14 ∨ k = 15 ∨ k = 16) : Calls Tryz.prog 116 #[.agg #[.int .i64 k, .int .i64 u, .int .i64 v, .int .u64 w]] W fun e w' => e = .returned (.bool (isV u && isV v)) ∧ Below W.heap.size W w' := by
  have hb1 := Lib.hid ((Below.refl W.heap.size W).alloc (Nat.le_refl _) (.cells #[.int .i64 k, .int .i64 u, .int .i64 v, .int .u64 w] 38))
  have H0 := Lib.hid (err0 (isV u && isV v))
  rcases hk with rfl | rfl | rfl <;>
  · go_enter Tryz.func116, Tryz.ntmps116
    go_wp2_with (first
      | (go_at_call 87; (refine (vertex_any u _).mono ?_; rintro e w' ⟨⟨k1, rfl⟩, rfl⟩))
      | (go_at_call 137; (refine (edge_any u v _).mono ?_; rintro e w' ⟨⟨k2, rfl⟩, rfl⟩)))
    go_ret
    exact ⟨congrArg (fun b => Ending.returned (Value.bool b)) H0.out, hb1.out⟩
theorem keys_plain (k u v w : Int) (W : World) (h1 : (k == 14) = false) (h2 : (k == 15) = false) (h3 : (k == 16) = false) : Calls Tryz.prog 116 #[.agg #[.int .i64 k, .int .i64 u, .int .i64 v, .int .u64 w]] W fun e w' => e = .returned (.bool (isV u)) ∧ Below W.heap.size W w' := by
  have hb1 := Lib.hid ((Below.refl W.heap.size W).alloc (Nat.le_refl _) (.cells #[.int .i64 k, .int .i64 u, .int .i64 v, .int .u64 w] 38))
  have H0 := Lib.hid (err0 (isV u))
  go_enter Tryz.func116, Tryz.ntmps116
  go_wp2_with (go_at_call 87; (refine (vertex_any u _).mono ?_; rintro e w' ⟨⟨k1, rfl⟩, rfl⟩))
  go_ret
  exact ⟨congrArg (fun b => Ending.returned (Value.bool b)) H0.out, hb1.out⟩
theorem keys_any (o : Op) (W : World) : Calls Tryz.prog 116 #[o.val] W fun e w' => e = .returned (.bool (keysB o)) ∧ Below W.heap.size W w' := by
  obtain ⟨k, u, v, w⟩ := o
  cases h : edgeKind k
  · have hk := of_decide_eq_false h
    have e : keysB ⟨k, u, v, w⟩ = isV u := by unfold keysB; rw [show edgeKind k = false from h]; rfl
    rw [e]
    exact keys_plain k u v w W (by simp; omega) (by simp; omega) (by simp; omega)
  · have hk := of_decide_eq_true h
    have e : keysB ⟨k, u, v, w⟩ = (isV u && isV v) := by unfold keysB; rw [show edgeKind k = true from h]; rfl
    rw [e]
    exact keys_edge k u v w W hk
end Go.Proofs.YtpdfmfkoopdfgaaGreatDoor.Gr
end
