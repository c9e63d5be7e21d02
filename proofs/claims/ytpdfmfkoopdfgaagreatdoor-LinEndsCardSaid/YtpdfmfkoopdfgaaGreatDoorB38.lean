/- LRef3, LPut, LEnds, PTwoC, PEx, LSm. -/
import Derived.Test.YtpdfmfkoopdfgaaGreatDoorB36
import Derived.Test.YtpdfmfkoopdfgaaGreatDoorB37
import Derived.Test.YtpdfmfkoopdfgaaGreatDoorB34
import Derived.Test.YtpdfmfkoopdfgaaGreatDoorB03
import Derived.Test.YtpdfmfkoopdfgaaGreatDoorB20
import Derived.Test.YtpdfmfkoopdfgaaGreatDoorB10
import Derived.Deep.RegionHeld3
set_option linter.unusedVariables false
set_option linter.unusedSimpArgs false
section
namespace Go.Proofs.YtpdfmfkoopdfgaaGreatDoor
set_option maxRecDepth 100000
open Go.RowKit Aid Gr Hs LinP HeapP

/-! ### plain -/
theorem lex_at {a b : Arc} (hab : RowLt a b) : ∀ (i : Nat) {l m : List Arc}, l.take i = m.take i → l[i]? = some a → m[i]? = some b → LexLt l m
  | 0, x :: l, y :: m, _, h1, h2 => by
    simp at h1 h2; subst h1; subst h2; exact .inl hab
  | i + 1, [], _, _, h1, _ => by simp at h1
  | i + 1, _ :: _, [], _, _, h2 => by simp at h2
  | i + 1, x :: l, y :: m, ht, h1, h2 => by
    simp only [List.take_succ_cons, List.cons.injEq] at ht
    exact .inr ⟨ht.1, lex_at hab i ht.2 (by simpa using h1) (by simpa using h2)⟩
theorem lex_short : ∀ {l m : List Arc}, l.take l.length = m.take l.length → l.length < m.length → LexLt l m
  | [], [], _, h => by simp at h
  | [], y :: m, _, _ => trivial
  | x :: l, [], _, h => by simp at h
  | x :: l, y :: m, ht, h => by
    simp only [List.length_cons, List.take_succ_cons, List.cons.injEq] at ht
    exact .inr ⟨ht.1, lex_short ht.2 (by simpa using h)⟩
theorem take_next {l m : List Arc} {i : Nat} {a : Arc} (h : l.take i = m.take i) (h1 : l[i]? = some a) (h2 : m[i]? = some a) : l.take (i + 1) = m.take (i + 1) := by
  rw [List.take_add_one, List.take_add_one, h, h1, h2]
theorem row_eq {a b : Arc} (h1 : ¬ RowLt a b) (h2 : ¬ RowLt b a) : a = b := by
  unfold RowLt at h1 h2
  exact arc_eq (by omega) (by omega) (by omega)
/-- How two graphs lie, told by a number's sign. -/
def LiesAs (c : Int) (l m : List Arc) : Prop := (c < 0 ∧ LexLt l m) ∨ (c = 0 ∧ l = m) ∨ (0 < c ∧ LexLt m l)
theorem lies_end {l m : List Arc} {i : Nat} (h : l.take i = m.take i) (h1 : i ≤ l.length) (h2 : i ≤ m.length) (h3 : ¬ (i < l.length ∧ i < m.length)) : LiesAs ((l.length : Int) - (m.length : Int)) l m := by
  rcases Nat.lt_trichotomy l.length m.length with q | q | q
  · obtain rfl : i = l.length := by omega
    exact .inl ⟨by omega, lex_short h q⟩
  · obtain rfl : i = l.length := by omega
    refine .inr (.inl ⟨by omega, ?_⟩)
    rw [List.take_length, q, List.take_length] at h
    exact h
  · obtain rfl : i = m.length := by omega
    exact .inr (.inr ⟨by omega, lex_short h.symm q⟩)

/-! ### the walks -/
instance (a b : Arc) : Decidable (RowLt a b) := by unfold RowLt; infer_instance
set_option maxHeartbeats 2000000 in
theorem less_any (a b : Arc) (w : World) : Calls Tryz.prog 105 #[a.val, b.val] w fun e w' => e = .returned (.bool (decide (RowLt a b))) ∧ Below w.heap.size w w' := by
  have HB : Hid (∀ o1 o2, Below w.heap.size w ((w.alloc o1).alloc o2)) := Lib.hid fun o1 o2 => ((Below.refl w.heap.size w).alloc (Nat.le_refl _) o1).alloc (by rw [World.size_alloc]; omega) o2
  obtain ⟨B, hB⟩ : ∃ B, B = decide (RowLt a b) := ⟨_, rfl⟩
  rw [← hB]
  obtain ⟨au, av, aw⟩ := a
  obtain ⟨bu, bv, bw⟩ := b
  unfold Arc.val
  simp only
  by_cases hu : au = bu
  · have u1 : (au == bu) = true := by simpa using hu
    have u2 : (au != bu) = false := by simpa using hu
    by_cases hv : av = bv
    · have v1 : (av == bv) = true := by simpa using hv
      have v2 : (av != bv) = false := by simpa using hv
      obtain rfl : B = decide (aw < bw) := hB.trans (by unfold RowLt; simp [hu, hv])
      clear hB hu hv
      go_enter Tryz.func105, Tryz.ntmps105
      go_wp2
      go_ret
      exact ⟨rfl, HB.out _ _⟩
    · have v1 : (av == bv) = false := by simpa using hv
      have v2 : (av != bv) = true := by simpa using hv
      obtain rfl : B = decide (av < bv) := hB.trans (by unfold RowLt; simp [hu, hv])
      clear hB hu hv
      go_enter Tryz.func105, Tryz.ntmps105
      go_wp2
      go_ret
      exact ⟨rfl, HB.out _ _⟩
  · have u1 : (au == bu) = false := by simpa using hu
    have u2 : (au != bu) = true := by simpa using hu
    obtain rfl : B = decide (au < bu) := hB.trans (by unfold RowLt; simp [hu])
    clear hB hu
    go_enter Tryz.func105, Tryz.ntmps105
    go_wp2
    go_ret
    exact ⟨rfl, HB.out _ _⟩
set_option maxHeartbeats 4000000 in
theorem lies_any (A B : Option Addr) (c d n m : Nat) (l k : List Arc) (w : World) (hn : n = l.length) (hm : m = k.length) (hl : Arcs w A l) (hk : Arcs w B k) (h40 : l.length ≤ 100000) (h41 : k.length ≤ 100000) :
    Calls Tryz.prog 80 #[.slice A n c, .slice B m d] w fun e w' => ∃ x : Int, e = .returned (.int .i64 x) ∧ LiesAs x l k ∧ Below w.heap.size w w' := by
  have HN := Lib.hid hn
  have HM := Lib.hid hm
  have nb : n ≤ 100000 := by omega
  have mb : m ≤ 100000 := by omega
  have HL := Lib.hid hl
  have HK := Lib.hid hk
  clear hn hm hl hk h40 h41
  go_enter Tryz.func80, Tryz.ntmps80
  go_wp2
  go_loopw [5] (fun x wr => ∃ i : Nat, i ≤ n ∧ i ≤ m ∧ x = .int .i64 i ∧ l.take i = k.take i ∧ Below w.heap.size w wr) (fun x _ => n - (intOf x).toNat)
  case atStart => exact ⟨0, Nat.zero_le _, Nat.zero_le _, rfl, by simp, Below.refl _ _⟩
  case round =>
    obtain ⟨i, hi, hj, rfl, ht, hb⟩ := hrel
    have HT := Lib.hid ht
    have HB := Lib.hid hb
    clear ht hb
    by_cases hlt : i < n ∧ i < m
    · obtain ⟨h1, h2⟩ := hlt
      obtain ⟨a, ha⟩ : ∃ a, l[i]? = some a := ⟨l[i]'(by rw [← HN.out]; exact h1), List.getElem?_eq_getElem _⟩
      obtain ⟨b, hb⟩ : ∃ b, k[i]? = some b := ⟨k[i]'(by rw [← HM.out]; exact h2), List.getElem?_eq_getElem _⟩
      obtain ⟨p, q, hA, hcs⟩ := (HL.out.below HB.out (Nat.le_refl _)).2.2 (by rw [← HN.out]; omega)
      obtain ⟨a1, a2, a3⟩ := hcs i a ha
      obtain ⟨r, s, hB, hds⟩ := (HK.out.below HB.out (Nat.le_refl _)).2.2 (by rw [← HM.out]; omega)
      obtain ⟨b1, b2, b3⟩ := hds i b hb
      subst hA hB
      clear hcs hds
      have i0 : (0 : Int) ≤ (i : Int) := by omega
      have i1 : (i : Int) < (n : Int) := by omega
      have i2 : (i : Int) < (m : Int) := by omega
      have iz : IntKind.i64.wrap ((i : Int) + 1) = (i : Int) + 1 := by rw [IntKind.wrap_i64] <;> omega
      have LA : Hid (RowLt a b → LexLt l k) := Lib.hid fun h => lex_at h i HT.out ha hb
      have LB : Hid (RowLt b a → LexLt k l) := Lib.hid fun h => lex_at h i HT.out.symm hb ha
      have LC : Hid (a = b → l.take (i + 1) = k.take (i + 1)) := Lib.hid fun h => take_next HT.out ha (by rw [h]; exact hb)
      clear ha hb
      have D1 : Hid (∀ W : World, Calls Tryz.prog 105 #[.agg #[.int .i64 a.u, .int .i64 a.v, .int .u64 a.w], .agg #[.int .i64 b.u, .int .i64 b.v, .int .u64 b.w]] W fun e w' => e = .returned (.bool (decide (RowLt a b))) ∧ Below W.heap.size W w') := Lib.hid fun W => less_any a b W
      have D2 : Hid (∀ W : World, Calls Tryz.prog 105 #[.agg #[.int .i64 b.u, .int .i64 b.v, .int .u64 b.w], .agg #[.int .i64 a.u, .int .i64 a.v, .int .u64 a.w]] W fun e w' => e = .returned (.bool (decide (RowLt b a))) ∧ Below W.heap.size W w') := Lib.hid fun W => less_any b a W
      have KK : Hid (∀ W : World, Below wr.heap.size wr W → (W.cell? ⟨p, q + i * 3, none⟩ = some (.int .i64 a.u) ∧ W.cell? ⟨p, q + i * 3 + 1, none⟩ = some (.int .i64 a.v) ∧ W.cell? ⟨p, q + i * 3 + 2, none⟩ = some (.int .u64 a.w) ∧ W.cell? ⟨r, s + i * 3, none⟩ = some (.int .i64 b.u) ∧ W.cell? ⟨r, s + i * 3 + 1, none⟩ = some (.int .i64 b.v) ∧ W.cell? ⟨r, s + i * 3 + 2, none⟩ = some (.int .u64 b.w) ∧ Below wr.heap.size wr W)) := Lib.hid fun W h => ⟨cellL' a1 h, cellL' a2 h, cellL' a3 h, cellL' b1 h, cellL' b2 h, cellL' b3 h, h⟩
      have SS : Hid ((wr.drew.cell? ⟨p, q + i * 3, none⟩ = some (.int .i64 a.u) ∧ wr.drew.cell? ⟨p, q + i * 3 + 1, none⟩ = some (.int .i64 a.v) ∧ wr.drew.cell? ⟨p, q + i * 3 + 2, none⟩ = some (.int .u64 a.w) ∧ wr.drew.cell? ⟨r, s + i * 3, none⟩ = some (.int .i64 b.u) ∧ wr.drew.cell? ⟨r, s + i * 3 + 1, none⟩ = some (.int .i64 b.v) ∧ wr.drew.cell? ⟨r, s + i * 3 + 2, none⟩ = some (.int .u64 b.w) ∧ Below wr.heap.size wr wr.drew)) := Lib.hid (KK.out _ (Below.refl _ _).drew)
      by_cases hab : RowLt a b
      · have hd : decide (RowLt a b) = true := decide_eq_true hab
        rw [hd] at D1
        have HX := Lib.hid (LA.out hab)
        clear hd hab
        go_wp2
        go_region_held3 (fun W => (W.cell? ⟨p, q + i * 3, none⟩ = some (.int .i64 a.u) ∧ W.cell? ⟨p, q + i * 3 + 1, none⟩ = some (.int .i64 a.v) ∧ W.cell? ⟨p, q + i * 3 + 2, none⟩ = some (.int .u64 a.w) ∧ W.cell? ⟨r, s + i * 3, none⟩ = some (.int .i64 b.u) ∧ W.cell? ⟨r, s + i * 3 + 1, none⟩ = some (.int .i64 b.v) ∧ W.cell? ⟨r, s + i * 3 + 2, none⟩ = some (.int .u64 b.w) ∧ Below wr.heap.size wr W))
          (first | (with_reducible exact SS.out) | (with_reducible assumption))
          (first | (go_at_call 105; ((with_reducible refine (D1.out _).mono ?_); rintro e w2 ⟨rfl, hb2⟩; have HB2 := Lib.hid (SS.out.2.2.2.2.2.2.trans (hb2.mono SS.out.2.2.2.2.2.2.size)); have hkk := KK.out _ HB2.out; clear hb2)))
        go_wp2
        go_ret
        exact ⟨-1, rfl, .inl ⟨by decide, HX.out⟩, HB.out.trans (HB2.out.mono HB.out.size)⟩
      · have hd : decide (RowLt a b) = false := decide_eq_false hab
        rw [hd] at D1
        clear hd
        by_cases hba : RowLt b a
        · have hd : decide (RowLt b a) = true := decide_eq_true hba
          rw [hd] at D2
          have HX := Lib.hid (LB.out hba)
          clear hd hab hba
          go_wp2
          go_region_held3 (fun W => (W.cell? ⟨p, q + i * 3, none⟩ = some (.int .i64 a.u) ∧ W.cell? ⟨p, q + i * 3 + 1, none⟩ = some (.int .i64 a.v) ∧ W.cell? ⟨p, q + i * 3 + 2, none⟩ = some (.int .u64 a.w) ∧ W.cell? ⟨r, s + i * 3, none⟩ = some (.int .i64 b.u) ∧ W.cell? ⟨r, s + i * 3 + 1, none⟩ = some (.int .i64 b.v) ∧ W.cell? ⟨r, s + i * 3 + 2, none⟩ = some (.int .u64 b.w) ∧ Below wr.heap.size wr W))
          (first | (with_reducible exact SS.out) | (with_reducible assumption))
          (first | (go_at_call 105; ((with_reducible refine (D1.out _).mono ?_); rintro e w2 ⟨rfl, hb2⟩; have HB2 := Lib.hid (SS.out.2.2.2.2.2.2.trans (hb2.mono SS.out.2.2.2.2.2.2.size)); have hkk := KK.out _ HB2.out; clear hb2)))
          obtain ⟨g1, g2, g3, g4, g5, g6, _⟩ := hkk
          go_wp2
          have SS2 := Lib.hid (KK.out _ HB2.out.drew)
          go_region_held3 (fun W => (W.cell? ⟨p, q + i * 3, none⟩ = some (.int .i64 a.u) ∧ W.cell? ⟨p, q + i * 3 + 1, none⟩ = some (.int .i64 a.v) ∧ W.cell? ⟨p, q + i * 3 + 2, none⟩ = some (.int .u64 a.w) ∧ W.cell? ⟨r, s + i * 3, none⟩ = some (.int .i64 b.u) ∧ W.cell? ⟨r, s + i * 3 + 1, none⟩ = some (.int .i64 b.v) ∧ W.cell? ⟨r, s + i * 3 + 2, none⟩ = some (.int .u64 b.w) ∧ Below wr.heap.size wr W))
          (first | (with_reducible exact SS2.out) | (with_reducible assumption))
          (first | (go_at_call 105; ((with_reducible refine (D2.out _).mono ?_); rintro e w3 ⟨rfl, hb3⟩; have HB3 := Lib.hid (SS2.out.2.2.2.2.2.2.trans (hb3.mono SS2.out.2.2.2.2.2.2.size)); have hkk2 := KK.out _ HB3.out; clear hb3)))
          go_wp2
          go_ret
          exact ⟨1, rfl, .inr (.inr ⟨by decide, HX.out⟩), HB.out.trans (HB3.out.mono HB.out.size)⟩
        · have hd : decide (RowLt b a) = false := decide_eq_false hba
          rw [hd] at D2
          have HX := Lib.hid (LC.out (row_eq hab hba))
          clear hd hab hba
          go_wp2
          go_region_held3 (fun W => (W.cell? ⟨p, q + i * 3, none⟩ = some (.int .i64 a.u) ∧ W.cell? ⟨p, q + i * 3 + 1, none⟩ = some (.int .i64 a.v) ∧ W.cell? ⟨p, q + i * 3 + 2, none⟩ = some (.int .u64 a.w) ∧ W.cell? ⟨r, s + i * 3, none⟩ = some (.int .i64 b.u) ∧ W.cell? ⟨r, s + i * 3 + 1, none⟩ = some (.int .i64 b.v) ∧ W.cell? ⟨r, s + i * 3 + 2, none⟩ = some (.int .u64 b.w) ∧ Below wr.heap.size wr W))
          (first | (with_reducible exact SS.out) | (with_reducible assumption))
          (first | (go_at_call 105; ((with_reducible refine (D1.out _).mono ?_); rintro e w2 ⟨rfl, hb2⟩; have HB2 := Lib.hid (SS.out.2.2.2.2.2.2.trans (hb2.mono SS.out.2.2.2.2.2.2.size)); have hkk := KK.out _ HB2.out; clear hb2)))
          obtain ⟨g1, g2, g3, g4, g5, g6, _⟩ := hkk
          go_wp2
          have SS2 := Lib.hid (KK.out _ HB2.out.drew)
          go_region_held3 (fun W => (W.cell? ⟨p, q + i * 3, none⟩ = some (.int .i64 a.u) ∧ W.cell? ⟨p, q + i * 3 + 1, none⟩ = some (.int .i64 a.v) ∧ W.cell? ⟨p, q + i * 3 + 2, none⟩ = some (.int .u64 a.w) ∧ W.cell? ⟨r, s + i * 3, none⟩ = some (.int .i64 b.u) ∧ W.cell? ⟨r, s + i * 3 + 1, none⟩ = some (.int .i64 b.v) ∧ W.cell? ⟨r, s + i * 3 + 2, none⟩ = some (.int .u64 b.w) ∧ Below wr.heap.size wr W))
          (first | (with_reducible exact SS2.out) | (with_reducible assumption))
          (first | (go_at_call 105; ((with_reducible refine (D2.out _).mono ?_); rintro e w3 ⟨rfl, hb3⟩; have HB3 := Lib.hid (SS2.out.2.2.2.2.2.2.trans (hb3.mono SS2.out.2.2.2.2.2.2.size)); have hkk2 := KK.out _ HB3.out; clear hb3)))
          go_wp2
          refine ⟨⟨i + 1, by omega, by omega, by go_num, HX.out, HB.out.trans (HB3.out.mono HB.out.size)⟩, ?_⟩
          simp [intOf]; omega
    · have HE := Lib.hid (lies_end HT.out (by rw [← HN.out]; exact hi) (by rw [← HM.out]; exact hj) (by rw [← HN.out, ← HM.out]; exact hlt))
      rw [← HN.out, ← HM.out] at HE
      have mz : IntKind.i64.wrap ((n : Int) - (m : Int)) = (n : Int) - (m : Int) := by rw [IntKind.wrap_i64] <;> omega
      by_cases h1 : i < n
      · have h2 : ¬ i < m := fun q => hlt ⟨h1, q⟩
        have i1 : (i : Int) < (n : Int) := by omega
        have i2 : ¬ (i : Int) < (m : Int) := by omega
        go_wp2
        go_ret
        exact ⟨_, rfl, HE.out, HB.out⟩
      · have i1 : ¬ (i : Int) < (n : Int) := by omega
        go_wp2
        go_ret
        exact ⟨_, rfl, HE.out, HB.out⟩
end Go.Proofs.YtpdfmfkoopdfgaaGreatDoor
end
section
namespace Go.Proofs.YtpdfmfkoopdfgaaGreatDoor
set_option maxRecDepth 100000
open Go.RowKit Aid Gr Hs LinP HeapP

theorem sl_info : (Tryz.prog.info? 22).map (fun i => (i.zero, i.size, i.bytes)) = some (some (.slice none 0 0), 1, 24) := by kernel_rfl
/-- A row of graphs that lies in memory. -/
def GRd (w : World) (A : Option Addr) (xs : List GSl) : Prop := Sl w A (xs.map GSl.val) ∧ ∀ x ∈ xs, Arcs w x.A x.l ∧ x.l.length ≤ 1000
theorem GRd.below {B : Nat} {w w' : World} {A : Option Addr} {xs : List GSl} (h : GRd w A xs) (hb : Below B w w') (hB : w.heap.size ≤ B) : GRd w' A xs := ⟨h.1.below hb hB, fun x hx => ⟨(h.2 x hx).1.below hb hB, (h.2 x hx).2⟩⟩
theorem GRd.cell {w : World} {A : Option Addr} {xs : List GSl} (h : GRd w A xs) {j : Nat} {x : GSl} (hj : xs[j]? = some x) : ∃ b off, A = some ⟨b, off, none⟩ ∧ w.cell? ⟨b, off + j, none⟩ = some (.slice x.A x.l.length x.c) := by
  have hlt := (List.getElem?_eq_some_iff.1 hj).1
  obtain ⟨b, off, hA, hc⟩ := h.1 (by rw [List.length_map]; omega)
  exact ⟨b, off, hA, hc j _ (by rw [List.getElem?_map, hj]; rfl)⟩
theorem own_belowR {w W : World} {base : Nat} {e : TypeId} {size : Nat} {v : Value} {n : Nat} {xs : List Value} (h : w.ownsRow base e size v n xs) (hb : Below w.heap.size w W) : W.ownsRow base e size v n xs := Gr.row_below h hb (Nat.le_refl _)
theorem one_val (w : World) (x : Value) (t : TypeId) (n : Nat) (h : w.heap.size = n) : Sl (w.alloc (.cells #[x] t)) (some ⟨n, 0, none⟩) [x] := by subst h; exact Gr.one_sl w x t
/-- A graph appended to a row of the call's own. -/
theorem wpList_app22 {ops : Array Oper} {rest : List Oper} {o : Oper} {a : Act} {w : World} {Q : Exit → Act → World → Prop} (hg : Region.wanted o (yielded ops a.tmps) = true) (s x : Operand)
    (ho : o.op = .call { callee := .builtin .append, args := #[s, x], argTypes := #[27, 27] }) (base : Nat) (cu : List GSl) (A : Option Addr) (c g n : Nat) (row : GSl) (hn : n = cu.length) (hs : a.eval s = .slice A n c)
    (hown : w.ownsRow base 22 1 (.slice A n c) n (cu.map GSl.val)) (hx : a.eval x = .slice (some ⟨g, 0, none⟩) 1 1) (hrow : Sl w (some ⟨g, 0, none⟩) [row.val]) (h40 : n ≤ 2000000000000) (hb : base ≤ w.heap.size)
    (h : ∀ A' c' w', w'.ownsRow base 22 1 (.slice A' (n + 1) c') (n + 1) ((cu ++ [row]).map GSl.val) → Below base w w' → wpList Tryz.prog ops Q rest (a.put o.dst (.slice A' (n + 1) c')) w') : wpList Tryz.prog ops Q (o :: rest) a w := by
  obtain ⟨i0, hi0, hz0, hz1, hz2⟩ := info_parts sl_info
  refine wpList_append_sl _ hg s x 27 ho base 22 i0 _ 1 24 Tryz.underlying27 hi0 hz0 hz1 hz2 rfl (by decide) _ n _ hs hown (some ⟨g, 0, none⟩) 1 1 [row.val] hx rfl hrow (fun u hu => by rw [List.mem_singleton.1 hu]; rfl) (by unfold maxLen; omega) (by omega) hb (n + 1) rfl ?_
  intro A5 c5 w5 hown5 hb5 _ _
  rw [show cu.map GSl.val ++ [row.val] = (cu ++ [row]).map GSl.val by simp] at hown5
  exact h A5 c5 w5 hown5 hb5
/-! ### plain: Put's rounds -/
theorem put_lo {L : List (List Arc)} {g x : List Arc} {i : Nat} (h : putG L g = L.take i ++ putG (L.drop i) g) (hx : L[i]? = some x) (hl : LexLt x g) : putG L g = L.take (i + 1) ++ putG (L.drop (i + 1)) g := by
  obtain ⟨hi, he⟩ := List.getElem?_eq_some_iff.1 hx
  rw [h, List.drop_eq_getElem_cons hi, he, putG]
  rcases lexC_cases g x with ⟨_, q⟩ | ⟨_, q⟩ | ⟨q, _⟩
  · exact absurd (q.trans hl) (LexLt.irrefl _)
  · rw [q] at hl; exact absurd hl (LexLt.irrefl _)
  · rw [if_neg (by omega), if_neg (by omega), List.take_add_one, hx]; simp
theorem put_at {L : List (List Arc)} {g x : List Arc} {i : Nat} (h : putG L g = L.take i ++ putG (L.drop i) g) (hx : L[i]? = some x) (hl : LexLt g x) : putG L g = L.take i ++ [g] ++ [x] ++ L.drop (i + 1) := by
  obtain ⟨hi, he⟩ := List.getElem?_eq_some_iff.1 hx
  rw [h, List.drop_eq_getElem_cons hi, he, putG]
  rcases lexC_cases g x with ⟨q, _⟩ | ⟨_, q⟩ | ⟨_, q⟩
  · rw [if_neg (by omega), if_pos q]; simp
  · rw [q] at hl; exact absurd hl (LexLt.irrefl _)
  · exact absurd (q.trans hl) (LexLt.irrefl _)
theorem put_same {L : List (List Arc)} {g : List Arc} {i : Nat} (h : putG L g = L.take i ++ putG (L.drop i) g) (hx : L[i]? = some g) : putG L g = L := by
  obtain ⟨hi, he⟩ := List.getElem?_eq_some_iff.1 hx
  rw [h, List.drop_eq_getElem_cons hi, he, putG]
  rcases lexC_cases g g with ⟨_, q⟩ | ⟨q, _⟩ | ⟨_, q⟩
  · exact absurd q (LexLt.irrefl _)
  · rw [if_pos q]
    conv => rhs; rw [← List.take_append_drop i L, List.drop_eq_getElem_cons hi, he]
  · exact absurd q (LexLt.irrefl _)
theorem rise_after {L : List (List Arc)} (hs : L.Pairwise LexLt) {g x y : List Arc} {i j : Nat} (hx : L[i]? = some x) (hy : L[j]? = some y) (hij : i < j) (hg : LexLt g x) : LexLt g y := by
  obtain ⟨h1, e1⟩ := List.getElem?_eq_some_iff.1 hx
  obtain ⟨h2, e2⟩ := List.getElem?_eq_some_iff.1 hy
  have := List.pairwise_iff_getElem.1 hs i j h1 h2 hij
  rw [e1, e2] at this
  exact hg.trans this
/-- Put, behind i rounds: not yet laid, or laid. -/
def PutUp (L : List (List Arc)) (g : List Arc) (i : Nat) (laid : Bool) (o : List (List Arc)) : Prop :=
  (laid = false → o = L.take i ∧ putG L g = L.take i ++ putG (L.drop i) g) ∧ (laid = true → putG L g = o ++ L.drop i ∧ ∀ (j : Nat) (y : List Arc), i ≤ j → L[j]? = some y → LexLt g y)
theorem PutUp.start (L : List (List Arc)) (g : List Arc) : PutUp L g 0 false [] := ⟨fun _ => ⟨by simp, by simp⟩, fun h => by cases h⟩
theorem PutUp.lo {L : List (List Arc)} {g x : List Arc} {i : Nat} {o : List (List Arc)} (h : PutUp L g i false o) (hx : L[i]? = some x) (hl : LexLt x g) : PutUp L g (i + 1) false (o ++ [x]) := by
  obtain ⟨h1, h2⟩ := h.1 rfl
  exact ⟨fun _ => ⟨by rw [h1, List.take_add_one, hx]; rfl, put_lo h2 hx hl⟩, fun h => by cases h⟩
theorem PutUp.lay {L : List (List Arc)} (hs : L.Pairwise LexLt) {g x : List Arc} {i : Nat} {o : List (List Arc)} (h : PutUp L g i false o) (hx : L[i]? = some x) (hl : LexLt g x) : PutUp L g (i + 1) true (o ++ [g] ++ [x]) := by
  obtain ⟨h1, h2⟩ := h.1 rfl
  exact ⟨fun h => (by cases h), fun _ => ⟨by rw [h1]; exact put_at h2 hx hl, fun j y hj hy => rise_after hs hx hy (by omega) hl⟩⟩
theorem PutUp.hi {L : List (List Arc)} {g x : List Arc} {i : Nat} {o : List (List Arc)} (h : PutUp L g i true o) (hx : L[i]? = some x) : PutUp L g (i + 1) true (o ++ [x]) := by
  obtain ⟨h1, h2⟩ := h.2 rfl
  obtain ⟨hi, he⟩ := List.getElem?_eq_some_iff.1 hx
  exact ⟨fun h => (by cases h), fun _ => ⟨by rw [h1, List.drop_eq_getElem_cons hi, he]; simp, fun j y hj hy => h2 j y (by omega) hy⟩⟩
theorem PutUp.endL {L : List (List Arc)} {g : List Arc} {o : List (List Arc)} (h : PutUp L g L.length true o) : putG L g = o := by
  rw [(h.2 rfl).1]; simp
theorem PutUp.endN {L : List (List Arc)} {g : List Arc} {o : List (List Arc)} (h : PutUp L g L.length false o) : putG L g = o ++ [g] := by
  obtain ⟨h1, h2⟩ := h.1 rfl
  rw [h2, h1]; simp [putG]
theorem LiesAs.neg {y : Int} {l m : List Arc} (h : LiesAs y l m) (k : LexLt l m) : y < 0 := by
  rcases h with ⟨h, _⟩ | ⟨_, h⟩ | ⟨_, h⟩
  · exact h
  · subst h; exact absurd k (LexLt.irrefl _)
  · exact absurd (h.trans k) (LexLt.irrefl _)
theorem LiesAs.zero {y : Int} {l m : List Arc} (h : LiesAs y l m) (k : l = m) : y = 0 := by
  subst k
  rcases h with ⟨_, h⟩ | ⟨h, _⟩ | ⟨_, h⟩
  · exact absurd h (LexLt.irrefl _)
  · exact h
  · exact absurd h (LexLt.irrefl _)
theorem LiesAs.pos {y : Int} {l m : List Arc} (h : LiesAs y l m) (k : LexLt m l) : 0 < y := by
  rcases h with ⟨_, h⟩ | ⟨_, h⟩ | ⟨h, _⟩
  · exact absurd (h.trans k) (LexLt.irrefl _)
  · subst h; exact absurd k (LexLt.irrefl _)
  · exact h
set_option maxHeartbeats 4000000 in
theorem put_any (A B : Option Addr) (c d n m : Nat) (xs : List GSl) (g : List Arc) (w : World) (hn : n = xs.length) (hm : m = g.length) (hl : GRd w A xs) (hg : Arcs w B g) (hs : (xs.map GSl.l).Pairwise LexLt) (h40 : xs.length ≤ 1000000000000) (h41 : g.length ≤ 1000) :
    Calls Tryz.prog 52 #[.slice A n c, .slice B m d] w fun e w' => ∃ C f ys, e = .returned (.slice C ys.length f) ∧ GRd w' C ys ∧ ys.map GSl.l = putG (xs.map GSl.l) g ∧ Below w.heap.size w w' := by
  have HN := Lib.hid hn
  have HM := Lib.hid hm
  have HL := Lib.hid hl
  have HG := Lib.hid hg
  have HS := Lib.hid hs
  have H41 := Lib.hid h41
  have nb : n ≤ 1000000000000 := by omega
  clear hn hm hl hg hs h40 h41
  go_enter Tryz.func52, Tryz.ntmps52
  go_wp2
  go_loopw [5, 6, 7] (fun v ld iv wr => ∃ (i : Nat) (b : Bool) (o : List GSl), i ≤ n ∧ iv = .int .i64 i ∧ ld = .bool b ∧ PutUp (xs.map GSl.l) g i b (o.map GSl.l) ∧ o.length ≤ i + 1 ∧ (∀ x ∈ o, Arcs w x.A x.l ∧ x.l.length ≤ 1000) ∧ wr.ownsRow w.heap.size 22 1 v o.length (o.map GSl.val) ∧ Below w.heap.size w wr) (fun _ _ iv _ => n - (intOf iv).toNat)
  case atStart => exact ⟨0, false, [], Nat.zero_le _, rfl, rfl, PutUp.start _ _, by simp, by simp, World.ownsRow_nil _ _ _ _, Below.refl _ _⟩
  case round =>
    obtain ⟨i, b, o, hi, rfl, rfl, hp, hol, hok, ho, hb⟩ := hrel
    obtain ⟨T, tc, hT⟩ := Gr.own_any ho
    subst hT
    have HP := Lib.hid hp
    have HOK := Lib.hid hok
    have HO := Lib.hid ho
    have HB := Lib.hid hb
    have m1 : o.length ≤ 2000000000000 := by omega
    have m2 : o.length + 1 ≤ 2000000000000 := by omega
    have HOL := Lib.hid hol
    clear hp hok ho hb hol
    by_cases hlt : i < n
    · obtain ⟨x, hx⟩ : ∃ x, xs[i]? = some x := ⟨xs[i]'(by rw [← HN.out]; exact hlt), List.getElem?_eq_getElem _⟩
      have hxl : Hid ((xs.map GSl.l)[i]? = some x.l) := Lib.hid (by rw [List.getElem?_map, hx]; rfl)
      obtain ⟨p, q, hA, c0⟩ := (HL.out.below HB.out (Nat.le_refl _)).cell hx
      subst hA
      have hxo := HL.out.2 x (List.mem_of_getElem? hx)
      have XA := Lib.hid hxo.1
      have XL := Lib.hid hxo.2
      have DL : Hid (Calls Tryz.prog 80 #[.slice B m d, .slice x.A x.l.length x.c] wr fun e w' => ∃ y : Int, e = .returned (.int .i64 y) ∧ LiesAs y g x.l ∧ Below wr.heap.size wr w') := Lib.hid (lies_any B x.A d x.c m _ g x.l wr HM.out rfl (HG.out.below HB.out (Nat.le_refl _)) (XA.out.below HB.out (Nat.le_refl _)) (by have := H41.out; omega) (by have := XL.out; omega))
      have i0 : (0 : Int) ≤ (i : Int) := by omega
      have i1 : (i : Int) < (n : Int) := by omega
      have kz : IntKind.i64.wrap ((i : Int) + 1) = (i : Int) + 1 := by rw [IntKind.wrap_i64] <;> omega
      clear hx hxo
      have pl : p < w.heap.size := by
        obtain ⟨b', o', hA', hc'⟩ := HL.out.1 (by rw [List.length_map, ← HN.out]; omega)
        injection hA' with hA'; injection hA' with hA' _; subst hA'
        have h0 := (List.getElem?_eq_some_iff.1 hxl.out).1
        rw [List.length_map] at h0
        exact World.block_lt_of_cell? _ _ (hc' i _ (by rw [List.getElem?_map, List.getElem?_eq_getElem h0]; rfl))
      cases b
      · have hMg : (Value.slice B m d : Value) = (GSl.mk B d g).val := by rw [HM.out]; rfl
        have hoi : o.length ≤ i := by
          have := congrArg List.length (HP.out.1 rfl).1
          rw [List.length_map, List.length_take] at this; omega
        have HR : Hid (∀ (W : World) (n : Nat), W.heap.size = n → Sl (W.alloc (.cells #[.slice B m d] 22)) (some ⟨n, 0, none⟩) [(GSl.mk B d g).val]) := Lib.hid fun W n h => by rw [← hMg]; exact one_val W _ 22 n h
        clear hMg
        rcases lexC_cases g x.l with ⟨_, hlx⟩ | ⟨_, hlx⟩ | ⟨_, hlx⟩
        · have HX : Hid (PutUp (xs.map GSl.l) g (i + 1) true ((o ++ [GSl.mk B d g] ++ [x]).map GSl.l)) := Lib.hid (by have := HP.out.lay HS.out hxl.out hlx; simpa using this)
          have HK : Hid (∀ z ∈ o ++ [GSl.mk B d g] ++ [x], Arcs w z.A z.l ∧ z.l.length ≤ 1000) := Lib.hid fun z hz => by
            rcases List.mem_append.1 hz with r | r
            · rcases List.mem_append.1 r with r | r
              · exact HOK.out z r
              · rw [List.mem_singleton] at r; subst r; exact ⟨HG.out, H41.out⟩
            · rw [List.mem_singleton] at r; subst r; exact ⟨XA.out, XL.out⟩
          have HL2 : Hid (o.length + 1 = (o ++ [GSl.mk B d g]).length) := Lib.hid (by simp)
          have HLX := Lib.hid hlx
          clear hlx
          go_wp2_with (first
            | (go_at_call 80; ((with_reducible refine (DL.out).mono ?_); rintro e w2 ⟨y, rfl, hla, hb2⟩; have hy := hla.neg HLX.out; have hy0 : (y == 0) = false := (by simp; omega); have hy1 : decide (y < 0) = true := (by simpa using hy); clear hy; have HB2 := Lib.hid (HB.out.trans (hb2.mono HB.out.size)); have d0 := cellL' c0 hb2; have HO2 := Lib.hid (own_belowR HO.out hb2); clear hla hb2))
            | (
            at_builtin
            refine wpList_app22 rfl (.tmp 30) (.tmp 32) rfl w.heap.size o T tc w2.heap.size _ (GSl.mk B d g) rfl rfl (HO2.out.alloc _) rfl (HR.out _ _ rfl) m1 ((HB2.out).alloc (HB2.out).size _).size ?_
            intro A5 c5 w5 hown hb5
            have HO5 := Lib.hid hown
            have HB5 := Lib.hid (((HB2.out).alloc (HB2.out).size _).trans hb5)
            have d1 := (HB5.out.cell (p := ⟨p, q + i, none⟩) pl).trans ((HB2.out.cell (p := ⟨p, q + i, none⟩) pl).symm.trans d0)
            clear hown hb5)
            | (
            at_builtin
            refine wpList_app22 rfl (.tmp 34) (.tmp 39) rfl w.heap.size (o ++ [GSl.mk B d g]) A5 c5 w5.heap.size _ x HL2.out rfl (HO5.out.alloc _) rfl (one_val _ _ _ _ rfl) m2 ((HB5.out).alloc (HB5.out).size _).size ?_
            intro A6 c6 w6 hown hb5
            have HO6 := Lib.hid hown
            have HB6 := Lib.hid (((HB5.out).alloc (HB5.out).size _).trans hb5)
            clear hown hb5))
          refine ⟨⟨i + 1, true, o ++ [GSl.mk B d g] ++ [x], by omega, by go_num, rfl, HX.out, by simp; omega, HK.out, by simpa using HO6.out, HB6.out⟩, ?_⟩
          simp [intOf]; omega
        · have HX := Lib.hid (put_same (HP.out.1 rfl).2 (by rw [hxl.out, ← hlx]))
          have HLX := Lib.hid hlx
          clear hlx
          go_wp2_with (first
            | (go_at_call 80; ((with_reducible refine (DL.out).mono ?_); rintro e w2 ⟨y, rfl, hla, hb2⟩; have hy := hla.zero HLX.out; subst hy; have HB2 := Lib.hid (HB.out.trans (hb2.mono HB.out.size)); have d0 := cellL' c0 hb2; have HO2 := Lib.hid (own_belowR HO.out hb2); clear hla hb2)))
          go_ret
          exact ⟨_, c, xs, by rw [← HN.out]; rfl, HL.out.below HB2.out (Nat.le_refl _), HX.out.symm, HB2.out⟩
        · have HX : Hid (PutUp (xs.map GSl.l) g (i + 1) false ((o ++ [x]).map GSl.l)) := Lib.hid (by have := HP.out.lo hxl.out hlx; simpa using this)
          have HK : Hid (∀ z ∈ o ++ [x], Arcs w z.A z.l ∧ z.l.length ≤ 1000) := Lib.hid fun z hz => by
            rcases List.mem_append.1 hz with r | r
            · exact HOK.out z r
            · rw [List.mem_singleton] at r; subst r; exact ⟨XA.out, XL.out⟩
          have HLX := Lib.hid hlx
          clear hlx
          go_wp2_with (first
            | (go_at_call 80; ((with_reducible refine (DL.out).mono ?_); rintro e w2 ⟨y, rfl, hla, hb2⟩; have hy := hla.pos HLX.out; have hy0 : (y == 0) = false := (by simp; omega); have hy1 : decide (y < 0) = false := (by simp; omega); clear hy; have HB2 := Lib.hid (HB.out.trans (hb2.mono HB.out.size)); have d0 := cellL' c0 hb2; have HO2 := Lib.hid (own_belowR HO.out hb2); clear hla hb2))
            | (
            at_builtin
            refine wpList_app22 rfl (.tmp 34) (.tmp 39) rfl w.heap.size o T tc w2.heap.size _ x rfl rfl (HO2.out.alloc _) rfl (one_val _ _ _ _ rfl) m1 ((HB2.out).alloc (HB2.out).size _).size ?_
            intro A5 c5 w5 hown hb5
            have HO5 := Lib.hid hown
            have HB5 := Lib.hid (((HB2.out).alloc (HB2.out).size _).trans hb5)
            clear hown hb5))
          refine ⟨⟨i + 1, false, o ++ [x], by omega, by go_num, rfl, HX.out, by have := HOL.out; simp; omega, HK.out, by simpa using HO5.out, HB5.out⟩, ?_⟩
          simp [intOf]; omega
      · have hlx := (HP.out.2 rfl).2 i _ (Nat.le_refl _) hxl.out
        have HX : Hid (PutUp (xs.map GSl.l) g (i + 1) true ((o ++ [x]).map GSl.l)) := Lib.hid (by have := HP.out.hi hxl.out; simpa using this)
        have HK : Hid (∀ z ∈ o ++ [x], Arcs w z.A z.l ∧ z.l.length ≤ 1000) := Lib.hid fun z hz => by
          rcases List.mem_append.1 hz with r | r
          · exact HOK.out z r
          · rw [List.mem_singleton] at r; subst r; exact ⟨XA.out, XL.out⟩
        have HLX := Lib.hid hlx
        clear hlx
        go_wp2_with (first
          | (go_at_call 80; ((with_reducible refine (DL.out).mono ?_); rintro e w2 ⟨y, rfl, hla, hb2⟩; have hy := hla.neg HLX.out; have hy0 : (y == 0) = false := (by simp; omega); have hy1 : decide (y < 0) = true := (by simpa using hy); clear hy; have HB2 := Lib.hid (HB.out.trans (hb2.mono HB.out.size)); have d0 := cellL' c0 hb2; have HO2 := Lib.hid (own_belowR HO.out hb2); clear hla hb2))
          | (
            at_builtin
            refine wpList_app22 rfl (.tmp 34) (.tmp 39) rfl w.heap.size o T tc w2.heap.size _ x rfl rfl (HO2.out.alloc _) rfl (one_val _ _ _ _ rfl) m1 ((HB2.out).alloc (HB2.out).size _).size ?_
            intro A5 c5 w5 hown hb5
            have HO5 := Lib.hid hown
            have HB5 := Lib.hid (((HB2.out).alloc (HB2.out).size _).trans hb5)
            clear hown hb5))
        refine ⟨⟨i + 1, true, o ++ [x], by omega, by go_num, rfl, HX.out, by have := HOL.out; simp; omega, HK.out, by simpa using HO5.out, HB5.out⟩, ?_⟩
        simp [intOf]; omega
    · obtain rfl : i = n := by omega
      have hlen : Hid (i = (xs.map GSl.l).length) := Lib.hid (by rw [List.length_map]; exact HN.out)
      cases b
      · have hX := HP.out
        rw [hlen.out] at hX
        have HX := Lib.hid hX.endN
        clear hX
        have hMg : (Value.slice B m d : Value) = (GSl.mk B d g).val := by rw [HM.out]; rfl
        have HR : Hid (∀ (W : World) (n : Nat), W.heap.size = n → Sl (W.alloc (.cells #[.slice B m d] 22)) (some ⟨n, 0, none⟩) [(GSl.mk B d g).val]) := Lib.hid fun W n h => by rw [← hMg]; exact one_val W _ 22 n h
        clear hMg
        go_wp2_with (
            at_builtin
            refine wpList_app22 rfl (.tmp 43) (.tmp 45) rfl w.heap.size o T tc wr.heap.size _ (GSl.mk B d g) rfl rfl (HO.out.alloc _) rfl (HR.out _ _ rfl) m1 (HB.out.alloc HB.out.size _).size ?_
            intro A5 c5 w5 hown hb5
            have HO5 := Lib.hid hown
            have HB5 := Lib.hid ((HB.out.alloc HB.out.size _).trans hb5)
            clear hown hb5)
        go_ret
        refine ⟨A5, c5, o ++ [GSl.mk B d g], by simp, ⟨own_sl (n := o.length + 1) HO5.out, fun z hz => ?_⟩, by rw [HX.out]; simp, HB5.out⟩
        rcases List.mem_append.1 hz with r | r
        · exact ⟨(HOK.out z r).1.below HB5.out (Nat.le_refl _), (HOK.out z r).2⟩
        · rw [List.mem_singleton] at r; subst r; exact ⟨HG.out.below HB5.out (Nat.le_refl _), H41.out⟩
      · have hX := HP.out
        rw [hlen.out] at hX
        have HX := Lib.hid hX.endL
        clear hX
        go_wp2
        go_ret
        exact ⟨T, tc, o, rfl, ⟨own_sl HO.out, fun z hz => ⟨(HOK.out z hz).1.below HB.out (Nat.le_refl _), (HOK.out z hz).2⟩⟩, HX.out.symm, HB.out⟩
end Go.Proofs.YtpdfmfkoopdfgaaGreatDoor
end
section
namespace Go.Proofs.YtpdfmfkoopdfgaaGreatDoor
set_option maxRecDepth 100000
open Go.RowKit Aid Gr Hs LinP HeapP

/-! ### how long the graphs are -/
theorem und_ask {ps : List Pt} {d : List Bool} {i : Nat} (h : (sysOf ps).turn i = false) (hi : i < d.length) : und (sysOf ps) (d.set i true) = und (sysOf ps) d := undL_same (fun j ht => by
  rw [isD_set hi]
  by_cases hij : i = j
  · subst hij; rw [h] at ht; cases ht
  · rw [if_neg hij]) _
theorem steps_len {ps : List Pt} {g g' : List Arc} {d d' : List Bool} (h : LinP.Steps (sysOf ps) g d g' d') (hl : d.length = ps.length) (hr : Rises g) : g'.length + und (sysOf ps) d' ≤ g.length + und (sysOf ps) d ∧ Rises g' := by
  induction h with
  | refl => exact ⟨Nat.le_refl _, hr⟩
  | @step g d g' d' i h1 h2 h3 h4 _ ih =>
    have hi : i < ps.length := h1
    have hr2 : Rises ((sysOf ps).nx i g) := rises_do hr _
    have hlen : ((sysOf ps).nx i g).length ≤ g.length + 1 := len_do g (opOf (ptAt ps i))
    obtain ⟨i1, i2⟩ := ih (by rw [List.length_set]; exact hl) hr2
    refine ⟨?_, i2⟩
    cases ht : (sysOf ps).turn i
    · have hs : (sysOf ps).nx i g = g := still_do (o := opOf (ptAt ps i)) ht
      rw [und_ask ht (by omega), hs] at i1
      exact i1
    · have := und_set ht h2 hi hl
      omega
theorem ord_len {ps : List Pt} {g g' : List Arc} (h : LinP.Ord (sysOf ps) g g') (hr : Rises g) : g'.length ≤ g.length + tn ps ∧ Rises g' := by
  obtain ⟨d, hs, _⟩ := h
  have h1 := steps_len hs (List.length_replicate ..) hr
  have h2 : und (sysOf ps) (zeros (sysOf ps)) = tn ps := und_zeros ps ps.length
  exact ⟨by have := h1.1; omega, h1.2⟩
theorem chain_len {ps : List Pt} {g g' : List Arc} (h : Chain ps g g') (hr : Rises g) : g'.length ≤ g.length + tn ps ∧ Rises g' := by
  induction h with
  | done => exact ⟨by omega, hr⟩
  | @era ps g m g' _ ho _ ih =>
    have h1 := ord_len ho hr
    have h2 := ih h1.2
    have h3 := tn_split ps (eraLen ps)
    exact ⟨by have := h1.1; have := h2.1; omega, h2.2⟩

/-! ### what the calls are handed -/
structure LIn (w : World) (G : Option Addr) (ng : Nat) (g : List Arc) (H : Option Addr) (nh : Nat) (l : List Cl) : Prop where
  hng : ng = g.length
  hnh : nh = l.length
  hg : Arcs w G g
  hr : Rises g
  few : g.length ≤ 800
  hh : Cls w H l
  hb : ∀ a ∈ l, a.list.length ≤ 9223372036854775807
  ht : Tab w
  hist : HistIn l
theorem LIn.all {w : World} {G : Option Addr} {ng : Nat} {g : List Arc} {H : Option Addr} {nh : Nat} {l : List Cl} (h : LIn w G ng g H nh l) : AllIn w G ng g H nh l :=
  ⟨h.hng, h.hnh, h.hg, h.hh, by have := h.hist.few; omega, h.hb, h.ht, fun _ => h.hist.ain h.hr h.few⟩
theorem LIn.below {B : Nat} {w w' : World} {G : Option Addr} {ng : Nat} {g : List Arc} {H : Option Addr} {nh : Nat} {l : List Cl} (h : LIn w G ng g H nh l) (hb : Below B w w') (hB : w.heap.size ≤ B) : LIn w' G ng g H nh l :=
  ⟨h.hng, h.hnh, h.hg.below hb hB, h.hr, h.few, h.hh.below hb hB, h.hb, h.ht.below hb hB, h.hist⟩
/-- P21.2: the graphs that orders end with. -/
def Ends (l : List Cl) (g g' : List Arc) : Prop := listedB l = true ∧ Chain (pointsOf l) g g'
theorem res_ends {l : List Cl} (h : HistIn l) {g : List Arc} {gs : List (List Arc)} (hr : AllRes l g gs) (g' : List Arc) : g' ∈ gs ↔ Ends l g g' := by
  unfold AllRes at hr
  unfold Ends
  by_cases hq : listedB l = true
  · rw [if_pos hq] at hr
    rw [hr.ends h.points.good]
    exact ⟨fun k => ⟨hq, k⟩, fun k => k.2⟩
  · rw [if_neg hq] at hr
    subst hr
    exact ⟨fun k => (by cases k), fun k => absurd k.1 hq⟩
/-- lin.Order: P21.1. -/
theorem order_says (G : Option Addr) (gc ng : Nat) (g : List Arc) (H : Option Addr) (hc nh : Nat) (l : List Cl) (w : World) (hi : LIn w G ng g H nh l) (b : Bool) (hbe : b = true ↔ ∃ g', Ends l g g') :
    Calls Tryz.prog 14 #[.slice G ng gc, .slice H nh hc] w fun e w' => e = .returned (.bool b) ∧ Below w.heap.size w w' := by
  refine (order_any G gc ng g H hc nh l w hi.all).mono ?_
  rintro e w' ⟨gs, rfl, hb, hr⟩
  refine ⟨?_, hb⟩
  have : decide (0 < gs.length) = b := by
    rw [Bool.eq_iff_iff, decide_eq_true_iff, hbe]
    constructor
    · intro h
      obtain ⟨x, hx⟩ := List.exists_mem_of_length_pos h
      exact ⟨x, (res_ends hi.hist hr x).1 hx⟩
    · rintro ⟨x, hx⟩
      exact List.length_pos_of_mem ((res_ends hi.hist hr x).2 hx)
  rw [this]

/-! ### the sort, with what lies behind the row's length -/
theorem sort_row {Pd : Value → Prop} {α : Type} [Inhabited α] {enc : α → Value} (he : ∀ x, Pd (enc x)) {w : World} {g n cap q : Nat} {d d' : Array α} {os : Array Obj} (hH : Go.Sort.Holds enc w g 0 d) (hs : d'.size = d.size) (hg : g < w.heap.size) (h : RowAll Pd (.slice (some ⟨g, 0, none⟩) n cap) w) : RowAll Pd (.slice (some ⟨g, 0, none⟩) n cap) (sortWorld enc w g 0 q d' os) := by
  intro g' hg' j x hx
  obtain rfl : g = g' := Option.some.inj hg'
  unfold sortWorld at hx
  rw [Go.Sort.cell?_grow _ _ _ (by unfold Go.Sort.putRow Go.Sort.mapBlock Go.Sort.ahead; simpa using hg)] at hx
  have hA : Go.Sort.Holds enc (Go.Sort.ahead w q) g 0 d := hH
  by_cases hj : j < d'.size
  · have := Go.Sort.cell?_putRow enc (Go.Sort.ahead w q) g 0 d d' hA hs j hj
    rw [Nat.zero_add] at this
    rw [this] at hx
    cases hx
    exact he _
  · rw [Go.Sort.cell?_putRow_other _ _ _ _ _ _ (.inr (.inr (by show 0 + d'.size ≤ j; omega)))] at hx
    exact h g rfl j x hx
theorem sort22r (w : World) (base g cap n : Nat) (zs : List (GT w g)) (hn : n = zs.length) (ho : w.ownsRow base 22 1 (.slice (some ⟨g, 0, none⟩) n cap) n (zs.map encG)) (hk : RowAll IsSl (.slice (some ⟨g, 0, none⟩) n cap) w) (hb : n < 4611686018427387904) :
    Calls Tryz.prog 22 #[.slice (some ⟨g, 0, none⟩) n cap, .func (.func 23) #[] #[]] w fun e w' => e = .returned (.tuple #[]) ∧ ∃ ys : List (GT w g), ys.Perm zs ∧ ys.Pairwise (fun a b => ¬ LexLt b.1.l a.1.l) ∧ w'.ownsRow base 22 1 (.slice (some ⟨g, 0, none⟩) n cap) n (ys.map encG) ∧ w.grownBy w' (some g) ∧ RowAll IsSl (.slice (some ⟨g, 0, none⟩) n cap) w' := by
  obtain ⟨g', cap', hv, _, hlt, _, _, _, hH⟩ := Go.Lib.holds_of_ownsRow ho (by simp)
  cases hv
  have hsz : zs.toArray.size = n := by rw [List.size_toArray, hn]
  have h := Any.slices_SortFunc Tryz.sortG (encG (w := w) (g := g)) (fun _ => rfl) cfG (swo_lex fun x : GT w g => x.1.l) 23 #[] g 0 cap zs.toArray w call23 (cmpG w g _) hH hlt (by rw [hsz]; exact hb)
  rw [hsz] at h
  refine Calls.mono h ?_
  rintro e w' ⟨he, d', q, os, hp, hs, rfl⟩
  have hd : d'.size = n := by rw [hp.1, hsz]
  refine ⟨he, d'.toList, ?_, ?_, ?_, ?_, ?_⟩
  · have h1 := hp.2.2
    have e1 : d'.extract 0 n = d' := by rw [← hd]; exact Array.extract_size
    have e2 : zs.toArray.extract 0 n = zs.toArray := by rw [← hsz]; exact Array.extract_size
    first | (rw [hsz, e1, e2] at h1; simpa using h1) | (rw [e1, e2] at h1; simpa using h1)
  · rw [List.pairwise_iff_getElem]
    intro i j hi hj hij
    have h1 := hs i j (Nat.zero_le _) hij (by rw [Array.length_toList, hd] at hj; first | exact hj | (rw [hsz]; exact hj))
    have hi2 : i < d'.size := by rwa [Array.length_toList] at hi
    have hj2 : j < d'.size := by rwa [Array.length_toList] at hj
    rw [getElem!_pos d' i hi2, getElem!_pos d' j hj2] at h1
    rw [Array.getElem_toList, Array.getElem_toList]
    intro hl
    unfold Go.Proofs.ltOf at h1
    exact of_decide_eq_false h1 ((lexC_neg _ _).2 hl)
  · have h1 := Go.Lib.ownsRow_putRow (q := q) (k := n) (ys := d'.toList) ho (by rw [Array.length_toList, hd]) (Nat.le_refl _)
    rw [List.take_of_length_le (by rw [Array.length_toList, hd]; exact Nat.le_refl _), Array.toArray_toList] at h1
    refine own_blk h1 (fun k hk => ?_)
    have hk2 := (h1.lt k hk).2
    unfold sortWorld Go.Sort.grow
    simp only []
    rw [Array.getElem?_append_left hk2]
  · refine ⟨rfl, rfl, rfl, ?_, fun k hk hne => sortWorld_blk _ _ _ _ _ _ hk (fun e => hne (by rw [e]))⟩
    unfold sortWorld Go.Sort.grow Go.Sort.putRow Go.Sort.mapBlock Go.Sort.ahead
    simp
  · exact sort_row (fun x => ⟨_, _, _, rfl⟩) hH (by rw [hd, hsz]) hlt hk
theorem sort22n (p : Option Addr) (cap : Nat) (w : World) : Calls Tryz.prog 22 #[.slice p 0 cap, .func (.func 23) #[] #[]] w fun e w' => e = .returned (.tuple #[]) ∧ w' = w := AnyF.slices_SortFunc_none { Tryz.sortG with } p cap _ w
/-- The graph of a state. -/
def toG (n : Nw) : GSl := ⟨n.A, n.c, n.l⟩
theorem eq_spec (x y : GSl) : GSl.eq x y = true ↔ x.l = y.l := by unfold GSl.eq sameB; exact decide_eq_true_iff
structure EndI (w1 : World) (out : List Nw) (i : Nat) (v : Value) (wr : World) : Prop where
  own : wr.ownsRow w1.heap.size 22 1 v i (((out.take i).map toG).map GSl.val)
  kind : RowAll IsSl v wr
  bel : Below w1.heap.size w1 wr
theorem gb_base {w1 w w' : World} {v : Value} {e : TypeId} {n : Nat} {xs : List Value} (hb : Below w1.heap.size w1 w) (ho : w.ownsRow w1.heap.size e 1 v n xs) (hg : w.grownBy w' v.ownBlock) : Below w1.heap.size w1 w' :=
  hb.trans ((Below.refl w1.heap.size w).grown hg hb.size (fun k hk => (ho.lt k hk).1))
theorem ends_sort (w1 wi : World) (out : List Nw) (N : Nat) (T : Option Addr) (tc : Nat) (HE : EndI w1 out N (.slice T N tc) wi) (hN : N = out.length) (nb : N ≤ 1000000000000) (hok : ∀ n ∈ out, Arcs w1 n.A n.l ∧ n.l.length ≤ 1000) :
    Calls Tryz.prog 22 #[.slice T N tc, .func (.func 23) #[] #[]] wi fun e w' => e = .returned (.tuple #[]) ∧ ∃ ys : List GSl, ys.Perm (out.map toG) ∧ ys.Pairwise (fun a b => ¬ LexLt b.l a.l) ∧ GRow w' w1.heap.size (.slice T N tc) ys ∧ Below w1.heap.size w1 w' := by
  have hall : ∀ x ∈ out.map toG, Arcs w1 x.A x.l ∧ x.l.length ≤ 1000 := fun x hx => by
    obtain ⟨n, hn, rfl⟩ := List.mem_map.1 hx
    exact hok n hn
  have ho := HE.own
  rw [List.take_of_length_le (by omega)] at ho
  rcases Nat.eq_zero_or_pos N with h0 | hp
  · have hnil : out = [] := List.eq_nil_of_length_eq_zero (by omega)
    subst hnil
    subst h0
    refine (sort22n T tc wi).mono ?_
    rintro e w' ⟨rfl, rfl⟩
    exact ⟨rfl, [], List.Perm.nil, List.Pairwise.nil, ⟨ho, HE.kind, fun x hx => by cases hx⟩, HE.bel⟩
  · rcases own_form ho with ⟨_, h0, _⟩ | ⟨gg, cap, hv, hg, hgl, _, _, _, _⟩
    · omega
    · injection hv with hT _ hc
      subst hT hc
      have gok : ∀ n ∈ out, GOk wi gg (toG n) := fun n hn => by
        have h1 := hok n hn
        refine ⟨h1.1.below HE.bel (Nat.le_refl _), fun hlen a ha => ?_, by have := h1.2; show n.l.length ≤ 100000; omega⟩
        obtain ⟨b, off, hA, hcs⟩ := h1.1.2.2 hlen
        have ha' : n.A = some a := ha
        rw [hA] at ha'; cases ha'
        have hb := World.block_lt_of_cell? _ _ (hcs 0 _ (List.getElem?_eq_getElem hlen)).1
        have := HE.bel.size
        exact ⟨Nat.lt_of_lt_of_le hb this, fun e => by have hb' : b < w1.heap.size := hb; have e' : b = gg := e; omega⟩
      obtain ⟨zs, hz⟩ : ∃ zs : List (GT wi gg), zs.map (fun z => z.1) = out.map toG := ⟨out.attach.map fun n => ⟨toG n.1, gok n.1 n.2⟩, by rw [List.map_map]; show out.attach.map (fun n => toG n.1) = _; simp⟩
      have hze : zs.map encG = (out.map toG).map GSl.val := by rw [← hz, List.map_map]; rfl
      have hzl : N = zs.length := by have := congrArg List.length hz; rw [List.length_map, List.length_map] at this; omega
      refine (sort22r wi w1.heap.size gg tc N zs hzl (by rw [hze]; exact ho) HE.kind (by omega)).mono ?_
      rintro e w' ⟨rfl, ys, hperm, hpw, hown, hgb, hkd⟩
      have hbl : Below w1.heap.size w1 w' := gb_base HE.bel ho hgb
      have hp2 : (ys.map fun z => z.1).Perm (out.map toG) := by rw [← hz]; exact hperm.map _
      refine ⟨rfl, ys.map fun z => z.1, hp2, by rw [List.pairwise_map]; exact hpw, ⟨?_, hkd, fun x hx => ?_⟩, hbl⟩
      · have hl : (ys.map fun z : GT wi gg => z.1).length = N := by rw [List.length_map, hperm.length_eq, ← hzl]
        rw [hl, List.map_map]
        exact hown
      · have := hall x (hp2.mem_iff.1 hx)
        exact ⟨this.1.below hbl (Nat.le_refl _), this.2⟩
set_option maxHeartbeats 4000000 in
theorem ends_any (G : Option Addr) (gc ng : Nat) (g : List Arc) (H : Option Addr) (hc nh : Nat) (l : List Cl) (w : World) (hi : LIn w G ng g H nh l) :
    Calls Tryz.prog 11 #[.slice G ng gc, .slice H nh hc] w fun e w' => ∃ B d ys, e = .returned (.slice B ys.length d) ∧ GRd w' B ys ∧ (ys.map GSl.l).Pairwise LexLt ∧ (∀ g', g' ∈ ys.map GSl.l ↔ Ends l g g') ∧ Below w.heap.size w w' := by
  have DA := Lib.hid (all_res G gc ng g H hc nh l w hi.all)
  have HI := Lib.hid hi
  clear hi
  go_enter Tryz.func11, Tryz.ntmps11
  go_wp2_with (go_at_call 21; ((with_reducible refine DA.out.mono ?_); rintro e w1 ⟨B, d, out, rfl, hsl, hok, hfew, hb1, hr1⟩; have HSL := Lib.hid hsl; have HOK := Lib.hid hok; have HFEW := Lib.hid hfew; have HB1 := Lib.hid hb1; have HR1 := Lib.hid hr1; clear hsl hok hfew hb1 hr1))
  obtain ⟨N, hN⟩ : ∃ N, N = out.length := ⟨_, rfl⟩
  rw [← hN]
  have HN := Lib.hid hN
  have nb : N ≤ 1000000000000 := by have := HFEW.out; omega
  clear hN DA
  go_loopw [5, 12] (fun v x wr => ∃ i : Nat, i ≤ N ∧ x = .int .i64 i ∧ EndI w1 out i v wr) (fun _ x _ => N - (intOf x).toNat)
  case atStart => exact ⟨0, Nat.zero_le _, rfl, ⟨by simpa using World.ownsRow_nil _ _ _ _, fun g hg => (by cases hg), Below.refl _ _⟩⟩
  case round =>
    obtain ⟨i, hi, rfl, hE⟩ := hrel
    obtain ⟨T, tc, hT⟩ := Gr.own_any hE.own
    subst hT
    have HE := Lib.hid hE
    clear hE
    obtain ⟨wi, hwi⟩ : ∃ wi, wi = wr := ⟨_, rfl⟩
    subst hwi
    by_cases hlt : i < N
    · obtain ⟨x, hx⟩ : ∃ x, out[i]? = some x := ⟨out[i]'(by rw [← HN.out]; exact hlt), List.getElem?_eq_getElem _⟩
      obtain ⟨g0, g1⟩ := nflat_get out i x hx
      obtain ⟨bb, bo, hB, hcs⟩ := (HSL.out.below HE.out.bel (Nat.le_refl _)) (by have := (List.getElem?_eq_some_iff.1 g0).1; omega)
      subst hB
      have c0 := hcs _ _ g0
      have c1 := hcs _ _ g1
      rw [← Nat.add_assoc] at c1
      clear hcs g0 g1
      have HX : Hid (out.take (i + 1) = out.take i ++ [x]) := Lib.hid (by rw [List.take_add_one, hx]; rfl)
      clear hx
      obtain ⟨A', c', l', B', k', d'⟩ := x
      change wi.cell? _ = some (.slice A' l'.length c') at c0
      change wi.cell? _ = some (.slice B' d'.length k') at c1
      have i0 : (0 : Int) ≤ (i : Int) := by omega
      have i1 : (i : Int) < (N : Int) := by omega
      have iz : IntKind.i64.wrap ((i : Int) + 1) = (i : Int) + 1 := by rw [IntKind.wrap_i64] <;> omega
      obtain ⟨b22, hb22, hz0, hz1, hz2⟩ := info_parts sl_info
      have hq1 : Hid (∀ u ∈ [Value.slice A' l'.length c'], u.oneCell' = true) := Lib.hid fun u hu => by rw [List.mem_singleton.1 hu]; rfl
      have hq2 : Hid (∀ u ∈ [Value.slice A' l'.length c'], IsSl u) := Lib.hid fun u hu => by rw [List.mem_singleton.1 hu]; exact ⟨_, _, _, rfl⟩
      have hq3 : Hid (∀ u ∈ (Value.slice none 0 0).cells.toList, IsSl u) := Lib.hid fun u hu => by rw [show u = .slice none 0 0 from by simpa [Value.cells] using hu]; exact ⟨_, _, _, rfl⟩
      have hq4 : Hid (i + 1 ≤ maxLen) := Lib.hid (by unfold maxLen; omega)
      have hq5 : Hid ((i + 1) * 24 ≤ 140737488355328) := Lib.hid (by omega)
      have HNW : Hid (∀ (o : Obj) (j : Nat) (u : Value), [Value.slice A' l'.length c'][j]? = some u → ((wi.alloc o).alloc (.cells #[.slice A' l'.length c'] 22)).cell? ⟨wi.heap.size + 1, 0 + j, none⟩ = some u) := Lib.hid fun o j u hu => by
        have := Gr.one_sl (wi.alloc o) (.slice A' l'.length c') 22 (by simp)
        obtain ⟨b, of, hA, hc⟩ := this
        rw [World.size_alloc] at hA
        cases hA
        exact hc j u hu
      have HBA : Hid (∀ o p : Obj, Below wi.heap.size wi ((wi.alloc o).alloc p)) := Lib.hid fun o p => ((Below.refl _ _).alloc (Nat.le_refl _) o).alloc (by rw [World.size_alloc]; omega) p
      have HOA : Hid (∀ o p : Obj, ((wi.alloc o).alloc p).ownsRow w1.heap.size 22 1 (.slice T i tc) i (((out.take i).map toG).map GSl.val)) := Lib.hid fun o p => (HE.out.own.alloc o).alloc p
      have HRA : Hid (∀ o p : Obj, RowAll IsSl (.slice T i tc) ((wi.alloc o).alloc p)) := Lib.hid fun o p => row_below HE.out.kind (fun k hk => (HE.out.own.lt k hk).2) (HBA.out o p)
      have HSZ : Hid (∀ o p : Obj, w1.heap.size ≤ ((wi.alloc o).alloc p).heap.size) := Lib.hid fun o p => Nat.le_trans HE.out.bel.size (HBA.out o p).size
      go_wp2_with (
        at_builtin
        refine wpList_append_all _ rfl (.tmp 16) (.tmp 19) 27 rfl IsSl w1.heap.size 22 b22 _ 1 24 Tryz.underlying27 hb22 hz0 hz1 hz2 rfl Nat.one_pos (.slice T i tc) i (((out.take i).map toG).map GSl.val) rfl (HOA.out (.cells #[.slice A' l'.length c', .slice B' d'.length k'] 66) (.cells #[.slice A' l'.length c'] 22)) (HRA.out (.cells #[.slice A' l'.length c', .slice B' d'.length k'] 66) (.cells #[.slice A' l'.length c'] 22)) (wi.heap.size + 1) 1 1 [.slice A' l'.length c'] rfl rfl (HNW.out (.cells #[.slice A' l'.length c', .slice B' d'.length k'] 66)) hq1.out hq2.out hq3.out Nat.one_pos hq4.out hq5.out (HSZ.out (.cells #[.slice A' l'.length c', .slice B' d'.length k'] 66) (.cells #[.slice A' l'.length c'] 22)) (i + 1) rfl ?_
        intro A5 c5 w5 hown5 hgb5 _ hall5
        have HO5 := Lib.hid hown5
        have HK5 := Lib.hid hall5
        have HB5 := Lib.hid (gb_base (HE.out.bel.trans ((HBA.out (.cells #[.slice A' l'.length c', .slice B' d'.length k'] 66) (.cells #[.slice A' l'.length c'] 22)).mono HE.out.bel.size)) (HOA.out (.cells #[.slice A' l'.length c', .slice B' d'.length k'] 66) (.cells #[.slice A' l'.length c'] 22)) hgb5)
        clear hown5 hgb5 hall5)
      refine ⟨⟨i + 1, by omega, by go_num, ?_, HK5.out, HB5.out⟩, by simp [intOf]; omega⟩
      rw [HX.out, List.map_append, List.map_append]
      exact HO5.out
    · obtain rfl : N = i := by omega
      have RE := Lib.hid (res_ends HI.out.hist HR1.out)
      have HLEN : Hid (∀ n ∈ out, Arcs w1 n.A n.l ∧ n.l.length ≤ 1000) := Lib.hid fun n hn => by
        refine ⟨(HOK.out n hn).1, ?_⟩
        have h1 := (RE.out n.l).1 (List.mem_map.2 ⟨n, hn, rfl⟩)
        have h2 := (chain_len h1.2 HI.out.hr).1
        have h3 := HI.out.hist.tn
        have h4 := HI.out.hist.few
        have h5 := HI.out.few
        omega
      have DS := Lib.hid (ends_sort w1 wi out N T tc HE.out HN.out nb HLEN.out)
      have DC : Hid (∀ (ys : List GSl) (w' : World), ys.Perm (out.map toG) → GRow w' w1.heap.size (.slice T N tc) ys → Calls Tryz.prog 26 #[.slice T N tc, .func (.func 27) #[] #[]] w' fun e w2 => ∃ B d, e = .returned (.slice B (cpt GSl.eq ys).length d) ∧ GRow w2 w1.heap.size (.slice B (cpt GSl.eq ys).length d) (cpt GSl.eq ys) ∧ w'.grownBy w2 (Value.slice T N tc).ownBlock) := Lib.hid fun ys w' hp hr => by
        have hl : N = ys.length := by rw [hp.length_eq, List.length_map]; exact HN.out
        exact compact26 T tc N ys w' w1.heap.size hl hr (by omega)
      go_wp2_with (first
        | (go_at_call 22; ((with_reducible refine DS.out.mono ?_); rintro e w2 ⟨rfl, ys, q1, q2, q3, q4⟩; have Q1 := Lib.hid q1; have Q2 := Lib.hid q2; have Q3 := Lib.hid q3; have Q4 := Lib.hid q4; clear q1 q2 q3 q4))
        | (go_at_call 26; ((with_reducible refine (DC.out ys w2 Q1.out Q3.out).mono ?_); rintro e w3 ⟨B3, d3, rfl, q5, q6⟩; have Q5 := Lib.hid q5; have Q6 := Lib.hid q6; clear q5 q6)))
      go_ret
      obtain ⟨hs, hm⟩ := cpt_rises GSl.l GSl.eq eq_spec ys Q2.out
      have hbl := gb_base Q4.out Q3.out.own Q6.out
      refine ⟨B3, d3, cpt GSl.eq ys, rfl, ⟨own_sl Q5.out.own, Q5.out.ok⟩, by rw [List.pairwise_map]; exact hs, fun g' => ?_, HB1.out.trans (hbl.mono HB1.out.size)⟩
      rw [← RE.out g', List.mem_map]
      refine (hm g').trans ?_
      rw [List.mem_map]
      constructor
      · rintro ⟨x, hx, rfl⟩
        obtain ⟨n, hn, rfl⟩ := List.mem_map.1 (Q1.out.mem_iff.1 hx)
        exact ⟨n, hn, rfl⟩
      · rintro ⟨n, hn, rfl⟩
        exact ⟨toG n, Q1.out.mem_iff.2 (List.mem_map.2 ⟨n, hn, rfl⟩), rfl⟩
end Go.Proofs.YtpdfmfkoopdfgaaGreatDoor
end
section
namespace Go.Proofs.YtpdfmfkoopdfgaaGreatDoor
set_option maxRecDepth 100000
open Go.RowKit Aid Gr Hs LinP HeapP

/-- A call that is answered, asks for no neighbours, and bears no list. -/
structure Plain (c : Cl) : Prop where
  kind : c.k ≠ 17
  op : openB c = false
  id : idleB c = false
  nil : c.list = []
theorem Plain.pts {c : Cl} (h : Plain c) (keys : List Int) : ptsOf c keys = [ptPlain c] := by
  unfold ptsOf
  rw [h.op, h.id]
  simp [h.kind]
theorem Plain.listed {c : Cl} (h : Plain c) (keys : List Int) : notListed keys c = false := by
  unfold notListed Hs.listedB
  rw [h.op, h.id, if_pos (.inl h.kind), h.nil]
  rfl
theorem plain_points {l : List Cl} (h : ∀ c ∈ l, Plain c) : pointsOf l = l.map ptPlain := by
  unfold pointsOf pointsK
  generalize keysOf l = keys
  induction l with
  | nil => rfl
  | cons a l ih =>
    rw [List.flatMap_cons, (h a (List.mem_cons_self ..)).pts, ih (fun c hc => h c (List.mem_cons_of_mem _ hc))]
    rfl
theorem plain_listed {l : List Cl} (h : ∀ c ∈ l, Plain c) : listedB l = true := by
  unfold listedB
  rw [Bool.not_eq_true', List.any_eq_false]
  intro c hc
  rw [(h c hc).listed]; simp
theorem chain_one_era {ps : List Pt} (hps : ps ≠ []) (he : ∀ p ∈ ps, p.era = (ps.headD ptD).era) (g g' : List Arc) : Chain ps g g' ↔ LinP.Ord (sysOf ps) g g' := by
  have hlen : eraLen ps = ps.length := by
    unfold eraLen
    have : ps.findIdx? (fun p => p.era != (ps.headD ptD).era) = none := by
      rw [List.findIdx?_eq_none_iff]
      intro p hp
      simp [he p hp]
    rw [this]
  constructor
  · intro h
    cases h with
    | done => exact absurd rfl hps
    | era _ ho hc =>
      rw [hlen, List.take_length] at ho
      rw [hlen, List.drop_length] at hc
      cases hc with
      | done => exact ho
      | era h0 _ _ => exact absurd rfl h0
  · intro h
    refine .era hps (m := g') (by rw [hlen, List.take_length]; exact h) (by rw [hlen, List.drop_length]; exact .done g')
theorem two_ends {a b : Cl} (ha : Plain a) (hb : Plain b) (he : a.era = b.era) (g g' : List Arc) : Ends [a, b] g g' ↔
    (¬ (0 ≤ b.to ∧ b.to < a.fr) ∧ fitR (ptPlain a) (doA g (opOf (ptPlain a))) = true ∧ fitR (ptPlain b) (doA (doG g (opOf (ptPlain a))) (opOf (ptPlain b))) = true ∧ g' = doG (doG g (opOf (ptPlain a))) (opOf (ptPlain b))) ∨
    (¬ (0 ≤ a.to ∧ a.to < b.fr) ∧ fitR (ptPlain b) (doA g (opOf (ptPlain b))) = true ∧ fitR (ptPlain a) (doA (doG g (opOf (ptPlain b))) (opOf (ptPlain a))) = true ∧ g' = doG (doG g (opOf (ptPlain b))) (opOf (ptPlain a))) := by
  have hall : ∀ c ∈ [a, b], Plain c := fun c hc => by
    rcases List.mem_cons.1 hc with rfl | hc
    · exact ha
    · rw [List.mem_singleton] at hc; subst hc; exact hb
  unfold Ends
  rw [plain_listed hall, plain_points hall]
  have h1 := chain_one_era (ps := [a, b].map ptPlain) (by simp) (fun p hp => by
    simp only [List.map_cons, List.map_nil, List.mem_cons, List.not_mem_nil, or_false] at hp
    rcases hp with rfl | rfl
    · rfl
    · exact he.symm) g g'
  rw [h1]
  have h2 := ord_two (S := sysOf ([a, b].map ptPlain)) rfl rfl rfl g g'
  rw [h2]
  simp only [true_and]
  exact Iff.rfl
theorem no_calls (g g' : List Arc) : Ends [] g g' ↔ g' = g := by
  unfold Ends
  have h1 : listedB [] = true := rfl
  have h2 : pointsOf [] = [] := rfl
  rw [h1, h2]
  constructor
  · rintro ⟨_, h⟩
    cases h with
    | done => rfl
    | era h _ _ => exact absurd rfl h
  · rintro rfl
    exact ⟨rfl, .done _⟩
end Go.Proofs.YtpdfmfkoopdfgaaGreatDoor
end
section
namespace Go.Proofs.YtpdfmfkoopdfgaaGreatDoor
set_option maxRecDepth 100000
open Go.RowKit Aid Gr Hs LinP HeapP

theorem in_nil (u : Int) : inB [] u = false := hasB_no.2 fun a ha => by cases ha
theorem in_one (u : Int) : inB [⟨u, -1, 0⟩] u = true := hasB_iff.2 ⟨⟨u, -1, 0⟩, List.mem_singleton.2 rfl, rfl, rfl⟩
theorem keys_11 {u v x : Int} (h : Gr.isV u = true) : keysB ⟨11, u, v, x⟩ = true := by unfold keysB; simp [edgeKind, h]
theorem keys_13 {u v x : Int} (h : Gr.isV u = true) : keysB ⟨13, u, v, x⟩ = true := by unfold keysB; simp [edgeKind, h]
theorem do_add {u v x : Int} (h : Gr.isV u = true) : doG [] ⟨11, u, v, x⟩ = [⟨u, -1, 0⟩] := by
  unfold doG
  rw [if_neg (by simp [keys_11 h]), if_pos rfl]
  exact withL_miss (l := []) (x := ⟨u, -1, 0⟩) (in_nil u)
theorem do_add2 {u v x : Int} (h : Gr.isV u = true) : doG [⟨u, -1, 0⟩] ⟨11, u, v, x⟩ = [⟨u, -1, 0⟩] := by
  unfold doG
  rw [if_neg (by simp [keys_11 h]), if_pos rfl]
  exact withL_hit (in_one u)
theorem ans_add {u v x : Int} (h : Gr.isV u = true) (l : List Arc) : doA l ⟨11, u, v, x⟩ = ⟨0, !inB l u, 0, 0, []⟩ := by unfold doA; simp [keys_11 h]
theorem ans_ask {u v x : Int} (h : Gr.isV u = true) (l : List Arc) : doA l ⟨13, u, v, x⟩ = ⟨0, inB l u, 0, 0, []⟩ := by unfold doA; simp [keys_13 h]
theorem do_ask {u v x : Int} (l : List Arc) : doG l ⟨13, u, v, x⟩ = l := still_do rfl
/-- A call that adds a vertex, and one that asks for it, or adds it as well. -/
def clAdd (me u fr tt : Int) (is : Bool) : Cl := ⟨me, 11, u, 0, 0, 0, fr, tt, 0, is, 0, 0, [], none, 0⟩
def clAsk (me u fr tt : Int) (is : Bool) : Cl := ⟨me, 13, u, 0, 0, 0, fr, tt, 0, is, 0, 0, [], none, 0⟩
theorem plain_add {me u fr tt : Int} {is : Bool} (h : 0 ≤ tt) : Plain (clAdd me u fr tt is) := ⟨by simp [clAdd], by unfold openB clAdd; simp; omega, by unfold idleB clAdd; simp, rfl⟩
theorem plain_ask {me u fr tt : Int} {is : Bool} (h : 0 ≤ tt) : Plain (clAsk me u fr tt is) := ⟨by simp [clAsk], by unfold openB clAsk; simp; omega, by unfold idleB clAsk; simp, rfl⟩
/-- Added, and asked for, in either row: the graphs that orders end with. -/
theorem add_ask {u f t x y : Int} {is : Bool} (hu : Gr.isV u = true) (ht : 0 ≤ t) (hy : 0 ≤ y) (g' : List Arc) :
    (Ends [clAdd 0 u f t true, clAsk 1 u x y is] [] g' ↔ (if is then ¬ y < f else ¬ t < x) ∧ g' = [⟨u, -1, 0⟩]) ∧
    (Ends [clAsk 1 u x y is, clAdd 0 u f t true] [] g' ↔ (if is then ¬ y < f else ¬ t < x) ∧ g' = [⟨u, -1, 0⟩]) := by
  have e1 := two_ends (a := clAdd 0 u f t true) (b := clAsk 1 u x y is) (plain_add ht) (plain_ask hy) rfl [] g'
  have e2 := two_ends (a := clAsk 1 u x y is) (b := clAdd 0 u f t true) (plain_ask hy) (plain_add ht) rfl [] g'
  have oa : opOf (ptPlain (clAdd 0 u f t true)) = ⟨11, u, 0, 0⟩ := rfl
  have ob : opOf (ptPlain (clAsk 1 u x y is)) = ⟨13, u, 0, 0⟩ := rfl
  rw [oa, ob] at e1 e2
  simp only [ans_add hu, ans_ask hu, do_add hu, do_ask, in_nil, in_one] at e1 e2
  have f1 : (ptPlain (clAdd 0 u f t true)).is = true := rfl
  constructor
  · rw [e1]
    cases is <;> (unfold fitR ptPlain clAdd clAsk; simp; try omega)
    all_goals (constructor <;> rintro ⟨h1, h2⟩ <;> exact ⟨by omega, h2⟩)
  · rw [e2]
    cases is <;> (unfold fitR ptPlain clAdd clAsk; simp; try omega)
    all_goals (constructor <;> rintro ⟨h1, h2⟩ <;> exact ⟨by omega, h2⟩)
theorem add_also {u f t x y : Int} (hu : Gr.isV u = true) (ht : 0 ≤ t) (hy : 0 ≤ y) (g' : List Arc) :
    (Ends [clAdd 0 u f t true, clAdd 1 u x y false] [] g' ↔ ¬ y < f ∧ g' = [⟨u, -1, 0⟩]) ∧
    (Ends [clAdd 1 u x y false, clAdd 0 u f t true] [] g' ↔ ¬ y < f ∧ g' = [⟨u, -1, 0⟩]) := by
  have e1 := two_ends (a := clAdd 0 u f t true) (b := clAdd 1 u x y false) (plain_add ht) (plain_add hy) rfl [] g'
  have e2 := two_ends (a := clAdd 1 u x y false) (b := clAdd 0 u f t true) (plain_add hy) (plain_add ht) rfl [] g'
  have oa : opOf (ptPlain (clAdd 0 u f t true)) = ⟨11, u, 0, 0⟩ := rfl
  have ob : opOf (ptPlain (clAdd 1 u x y false)) = ⟨11, u, 0, 0⟩ := rfl
  rw [oa, ob] at e1 e2
  simp only [ans_add hu, do_add hu, do_add2 hu, in_nil, in_one] at e1 e2
  constructor
  · rw [e1]
    unfold fitR ptPlain clAdd
    simp
    intro _; omega
  · rw [e2]
    unfold fitR ptPlain clAdd
    simp
    intro _; omega
end Go.Proofs.YtpdfmfkoopdfgaaGreatDoor
end
section
namespace Go.Proofs.YtpdfmfkoopdfgaaGreatDoor
set_option maxRecDepth 100000
open Go.RowKit Aid Gr Hs LinP HeapP

set_option maxHeartbeats 4000000 in
theorem all13_any (A B : Option Addr) (c d n m : Nat) (xs ys : List GSl) (w : World) (hn : n = xs.length) (hm : m = ys.length) (ha : GRd w A xs) (hb : GRd w B ys) (h : xs.map GSl.l = ys.map GSl.l) (h40 : n ≤ 1000000000000) :
    Calls Tryz.prog 13 #[.slice A n c, .slice B m d] w fun e w' => e = .returned (.bool true) ∧ Below w.heap.size w w' := by
  have hmn : m = n := by have := congrArg List.length h; rw [List.length_map, List.length_map] at this; omega
  subst hmn
  have HN := Lib.hid hn
  have HM := Lib.hid hm
  have HA := Lib.hid ha
  have HB := Lib.hid hb
  have HH := Lib.hid h
  clear hn hm ha hb h
  go_enter Tryz.func13, Tryz.ntmps13
  go_wp2
  go_loopw [5] (fun x5 wr => ∃ i : Nat, i ≤ m ∧ x5 = .int .i64 i ∧ Below w.heap.size w wr) (fun x5 _ => m - (intOf x5).toNat)
  case atStart => exact ⟨0, Nat.zero_le _, rfl, Below.refl _ _⟩
  case round =>
    obtain ⟨i, hi, rfl, hbl⟩ := hrel
    have HBL := Lib.hid hbl
    clear hbl
    obtain ⟨wi, hwi⟩ : ∃ wi, wi = wr := ⟨_, rfl⟩
    subst hwi
    by_cases hlt : i < m
    · obtain ⟨x, hx⟩ : ∃ x, xs[i]? = some x := ⟨xs[i]'(by rw [← HN.out]; exact hlt), List.getElem?_eq_getElem _⟩
      obtain ⟨y, hy⟩ : ∃ y, ys[i]? = some y := ⟨ys[i]'(by rw [← HM.out]; exact hlt), List.getElem?_eq_getElem _⟩
      obtain ⟨p, q, hA, c0⟩ := (HA.out.below HBL.out (Nat.le_refl _)).cell hx
      obtain ⟨p', q', hB, c1⟩ := (HB.out.below HBL.out (Nat.le_refl _)).cell hy
      subst hA hB
      have hxy : x.l = y.l := by
        have h1 : (xs.map GSl.l)[i]? = some x.l := by rw [List.getElem?_map, hx]; rfl
        have h2 : (ys.map GSl.l)[i]? = some y.l := by rw [List.getElem?_map, hy]; rfl
        rw [HH.out, h2] at h1
        exact (Option.some.inj h1).symm
      have hsame : sameB x.l y.l = true := by rw [hxy]; unfold sameB; simp
      have DS : Hid (∀ W : World, Below wi.heap.size wi W → Calls Tryz.prog 17 #[.slice x.A x.l.length x.c, .slice y.A y.l.length y.c] W fun e w' => e = .returned (.bool true) ∧ Below W.heap.size W w') := Lib.hid fun W hW => by
        have h1 := (HA.out.below HBL.out (Nat.le_refl _)).2 x (List.mem_of_getElem? hx)
        have h2 := (HB.out.below HBL.out (Nat.le_refl _)).2 y (List.mem_of_getElem? hy)
        have := refSame_any x.A y.A x.c y.c _ _ x.l y.l W rfl rfl (h1.1.below hW (Nat.le_refl _)) (h2.1.below hW (Nat.le_refl _)) h1.2
        rw [hsame] at this
        exact this
      have KK : Hid (∀ W : World, Below wi.heap.size wi W → W.cell? ⟨p, q + i, none⟩ = some (.slice x.A x.l.length x.c) ∧ W.cell? ⟨p', q' + i, none⟩ = some (.slice y.A y.l.length y.c) ∧ Below wi.heap.size wi W) := Lib.hid fun W h => ⟨cellL c0 h, cellL c1 h, h⟩
      have SS := Lib.hid (KK.out _ (Below.refl _ _).drew)
      have i0 : (0 : Int) ≤ (i : Int) := by omega
      have i1 : (i : Int) < (m : Int) := by omega
      have iz : IntKind.i64.wrap ((i : Int) + 1) = (i : Int) + 1 := by rw [IntKind.wrap_i64] <;> omega
      clear hx hy hsame hxy
      go_wp2_with (fail)
      go_region_held3 (fun W => W.cell? ⟨p, q + i, none⟩ = some (.slice x.A x.l.length x.c) ∧ W.cell? ⟨p', q' + i, none⟩ = some (.slice y.A y.l.length y.c) ∧ Below wi.heap.size wi W)
        (first | (with_reducible exact SS.out) | (with_reducible assumption))
        (first | (go_at_call 17; ((with_reducible refine (DS.out _ SS.out.2.2).mono ?_); rintro e w3 ⟨rfl, hb3⟩; have HB3 := Lib.hid (SS.out.2.2.trans (hb3.mono SS.out.2.2.size)); have hkk := KK.out _ HB3.out; clear hb3)))
      clear hkk
      go_wp2
      refine ⟨⟨i + 1, by omega, by go_num, HBL.out.trans (HB3.out.mono HBL.out.size)⟩, ?_⟩
      simp [intOf]; omega
    · obtain rfl : i = m := by omega
      go_wp2
      go_ret
      exact ⟨rfl, HBL.out⟩
set_option maxHeartbeats 4000000 in
theorem small_any (A : Option Addr) (c n : Nat) (l : List Cl) (most : Int) (w : World) (hn : n = l.length) (hl : Cls w A l) (h40 : n ≤ 9223372036854775807) :
    Calls Tryz.prog 10 #[.slice A n c, .int .i64 most] w fun e w' => ∃ b : Bool, e = .returned (.bool b) ∧ (b = true → Hs.RightP l ∧ (n : Int) ≤ most) ∧ Below w.heap.size w w' := by
  have HN := Lib.hid hn
  have HL := Lib.hid hl
  have D16 := Lib.hid (refRight_any A c n l w hn hl (by omega))
  clear hn hl
  obtain ⟨r, hr⟩ : ∃ r, Hs.rightB l = r := ⟨_, rfl⟩
  rw [hr] at D16
  have HR := Lib.hid hr
  clear hr
  cases r
  · go_enter Tryz.func10, Tryz.ntmps10
    go_wp2_with (go_at_call 16; ((with_reducible refine D16.out.mono ?_); rintro e w1 ⟨rfl, hb1⟩; have HB1 := Lib.hid hb1; clear hb1))
    go_ret
    exact ⟨false, rfl, fun h => (by cases h), HB1.out⟩
  · by_cases hm : most < (n : Int)
    · have fm : decide (most < (n : Int)) = true := decide_eq_true hm
      clear hm
      go_enter Tryz.func10, Tryz.ntmps10
      go_wp2_with (go_at_call 16; ((with_reducible refine D16.out.mono ?_); rintro e w1 ⟨rfl, hb1⟩; have HB1 := Lib.hid hb1; clear hb1))
      go_ret
      exact ⟨false, rfl, fun h => (by cases h), HB1.out⟩
    · have fm : decide (most < (n : Int)) = false := decide_eq_false hm
      have HM : Hid ((n : Int) ≤ most) := Lib.hid (by omega)
      clear hm
      go_enter Tryz.func10, Tryz.ntmps10
      go_wp2_with (go_at_call 16; ((with_reducible refine D16.out.mono ?_); rintro e w1 ⟨rfl, hb1⟩; have HB1 := Lib.hid hb1; clear hb1))
      clear fm
      go_loopw [6, 7] (fun x6 x7 wr => ∃ (z : Int) (i : Nat), i ≤ n ∧ x6 = .int .i64 z ∧ x7 = .int .i64 i ∧ Below w.heap.size w wr) (fun _ x7 _ => n - (intOf x7).toNat)
      case atStart => exact ⟨0, 0, Nat.zero_le _, rfl, rfl, HB1.out⟩
      case round =>
        obtain ⟨z, i, hi, rfl, rfl, hbl⟩ := hrel
        have HBL := Lib.hid hbl
        clear hbl
        obtain ⟨wi, hwi⟩ : ∃ wi, wi = wr := ⟨_, rfl⟩
        subst hwi
        by_cases hlt : i < n
        · obtain ⟨a, ha⟩ : ∃ a, l[i]? = some a := ⟨l[i]'(by rw [← HN.out]; exact hlt), List.getElem?_eq_getElem _⟩
          obtain ⟨b, off, hA, hat⟩ := (HL.out.below HBL.out (Nat.le_refl _)).get ha
          subst hA
          have D20 := Lib.hid (rOpen_any a wi)
          obtain ⟨c0, c1, c2, c3, c4, c5, c6, c7, c8, c9, c10, c11, c12⟩ := hat
          have L12 : Hid (∀ W, Below wi.heap.size wi W → W.cell? ⟨b, off + i * 13 + 12, none⟩ = some (.slice a.A a.list.length a.cap)) := Lib.hid fun W h => cellL c12 h
          unfold Cl.val at D20
          have i0 : (0 : Int) ≤ (i : Int) := by omega
          have i1 : (i : Int) < (n : Int) := by omega
          have iz : IntKind.i64.wrap ((i : Int) + 1) = (i : Int) + 1 := by rw [IntKind.wrap_i64] <;> omega
          clear ha
          obtain ⟨o, ho⟩ : ∃ o, openB a = o := ⟨_, rfl⟩
          rw [ho] at D20
          clear ho
          obtain ⟨k, hk⟩ : ∃ k, k = a.list.length := ⟨_, rfl⟩
          rw [← hk] at c12 D20 L12
          clear hk
          by_cases h8 : (8 : Int) < (k : Int)
          · have f8 : decide ((8 : Int) < (k : Int)) = true := decide_eq_true h8
            cases o
            · go_wp2_with (go_at_call 20; ((with_reducible refine D20.out.mono ?_); rintro e w3 ⟨rfl, hb3⟩; have HB3 := Lib.hid (HBL.out.trans (hb3.mono HBL.out.size)); have d12 := L12.out _ hb3; clear hb3))
              go_ret
              exact ⟨false, rfl, fun h => (by cases h), HB3.out⟩
            · go_wp2_with (go_at_call 20; ((with_reducible refine D20.out.mono ?_); rintro e w3 ⟨rfl, hb3⟩; have HB3 := Lib.hid (HBL.out.trans (hb3.mono HBL.out.size)); have d12 := L12.out _ hb3; clear hb3))
              go_ret
              exact ⟨false, rfl, fun h => (by cases h), HB3.out⟩
          · have f8 : decide ((8 : Int) < (k : Int)) = false := decide_eq_false h8
            cases o
            · go_wp2_with (go_at_call 20; ((with_reducible refine D20.out.mono ?_); rintro e w3 ⟨rfl, hb3⟩; have HB3 := Lib.hid (HBL.out.trans (hb3.mono HBL.out.size)); have d12 := L12.out _ hb3; clear hb3))
              refine ⟨⟨_, i + 1, by omega, rfl, by go_num, HB3.out⟩, ?_⟩
              simp [intOf]; omega
            · go_wp2_with (go_at_call 20; ((with_reducible refine D20.out.mono ?_); rintro e w3 ⟨rfl, hb3⟩; have HB3 := Lib.hid (HBL.out.trans (hb3.mono HBL.out.size)); have d12 := L12.out _ hb3; clear hb3))
              refine ⟨⟨_, i + 1, by omega, rfl, by go_num, HB3.out⟩, ?_⟩
              simp [intOf]; omega
        · obtain rfl : i = n := by omega
          go_wp2
          go_ret
          exact ⟨_, rfl, fun _ => ⟨Hs.right_of HR.out, HM.out⟩, HBL.out⟩
end Go.Proofs.YtpdfmfkoopdfgaaGreatDoor
end
