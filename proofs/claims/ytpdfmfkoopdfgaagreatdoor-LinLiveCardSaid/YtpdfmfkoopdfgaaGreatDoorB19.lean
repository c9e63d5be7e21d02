/- LName. -/
import Derived.Test.YtpdfmfkoopdfgaaGreatDoorB02
import Derived.Test.YtpdfmfkoopdfgaaGreatDoorB18
set_option linter.unusedVariables false
set_option linter.unusedSimpArgs false
namespace Go.Proofs.YtpdfmfkoopdfgaaGreatDoor
set_option maxRecDepth 100000
open Go.RowKit Aid Gr Hs LinP

def digs (x : Int) : List UInt8 := Lib.decDigits x.toNat
def rowName (a : Arc) : List UInt8 := Lib.itoa a.u ++ [44] ++ Lib.itoa a.v ++ [44] ++ digs a.w ++ [59]
def rowsName (l : List Arc) : List UInt8 := l.flatMap rowName
def bitsName (d : List Bool) : List UInt8 := d.flatMap Lib.formatBool
def nameOf (l : List Arc) (d : List Bool) : List UInt8 := rowsName l ++ bitsName d
theorem rowName_le (a : Arc) (h : a.Fine) : (rowName a).length ≤ 70 := by
  obtain ⟨f1, f2, f3, f4, f5, f6⟩ := h
  have h1 := Lib.itoa_length_le a.u (by omega) (by omega)
  have h2 := Lib.itoa_length_le a.v (by omega) (by omega)
  have h3 : (digs a.w).length ≤ 20 := by unfold digs; rw [Lib.decDigits_length]; exact Lib.nDigits_le20 _ (by omega)
  unfold rowName
  simp only [List.length_append, List.length_singleton]
  omega
theorem rowsName_le : ∀ (l : List Arc), (∀ a ∈ l, a.Fine) → (rowsName l).length ≤ l.length * 70
  | [], _ => Nat.zero_le _
  | a :: l, h => by
    have h1 := rowName_le a (h a (List.mem_cons_self ..))
    have h2 := rowsName_le l (fun x hx => h x (List.mem_cons_of_mem _ hx))
    unfold rowsName at h2 ⊢
    rw [List.flatMap_cons, List.length_append, List.length_cons]
    omega
theorem bitsName_le : ∀ (d : List Bool), (bitsName d).length ≤ d.length * 5
  | [] => Nat.zero_le _
  | x :: d => by
    have h1 : (Lib.formatBool x).length ≤ 5 := by cases x <;> decide
    have h2 := bitsName_le d
    unfold bitsName at h2 ⊢
    rw [List.flatMap_cons, List.length_append, List.length_cons]
    omega
theorem byteCells_len (l : List UInt8) : (Lib.byteCells l).length = l.length := by unfold Lib.byteCells; simp
theorem byteCells_append (l m : List UInt8) : Lib.byteCells (l ++ m) = Lib.byteCells l ++ Lib.byteCells m := by unfold Lib.byteCells; simp
theorem strCells_mk (l : List UInt8) : Lib.strCells ⟨l.toArray⟩ = Lib.byteCells l := by unfold Lib.strCells Lib.byteCells; simp
/-- The round's world: the box, the builder. -/
structure NI (w : World) (v0 v1 : Value) (bs : List UInt8) (wr : World) : Prop where
  b0 : Box2 wr w.heap.size v0 v1
  bd : Lib.IsBuilder 156 5 (w.heap.size + 1) (w.heap.size + 1) (Lib.byteCells bs) wr
  bel : Below w.heap.size w wr
theorem builder_below {T e : TypeId} {B b : Nat} {bs : List Value} {w W : World} (h : Lib.IsBuilder T e B b bs w) (hb : Below w.heap.size w W) : Lib.IsBuilder T e B b bs W := by
  have t : ∀ p, Lib.BuilderAt T e B b p bs w → Lib.BuilderAt T e B b p bs W := by
    rintro p ⟨hB, v, hv, ho, hn⟩
    have hlt : b < w.heap.size := (Array.getElem?_eq_some_iff.1 hv).1
    refine ⟨hB, v, (hb.block b hlt).trans hv, ho.kept (row := none) ⟨hb.os, hb.tape, hb.output, hb.size, fun k hk _ => hb.block k hk⟩ ?_, hn⟩
    cases hq : v.ownBlock
    · exact .inl rfl
    · exact .inr (by simp)
  exact h.imp (t _) (t _)
theorem NI.later {w : World} {v0 v1 : Value} {bs : List UInt8} {wr W : World} (h : NI w v0 v1 bs wr) (hb : Below wr.heap.size wr W) : NI w v0 v1 bs W :=
  ⟨h.b0.below hb h.b0.lt, builder_below h.bd hb, h.bel.trans (hb.mono h.bel.size)⟩
set_option maxHeartbeats 4000000 in
theorem name_any (A : Option Addr) (c nl : Nat) (l : List Arc) (B : Option Addr) (k nd : Nat) (d : List Bool) (w : World)
    (hT : Tab w) (hnl : nl = l.length) (hnd : nd = d.length) (hl : Arcs w A l) (h40 : l.length ≤ 1000) (hd : Sl w B (d.map Value.bool)) (hdn : d.length ≤ 1000000) :
    Calls Tryz.prog 94 #[.agg #[.slice A nl c, .slice B nd k]] w fun e w' => e = .returned (.string ⟨(nameOf l d).toArray⟩) ∧ Below w.heap.size w w' := by
  have nlb : nl ≤ 1000 := by omega
  have ndb : nd ≤ 1000000 := by omega
  have HNL := Lib.hid hnl
  have HND := Lib.hid hnd
  have HL := Lib.hid hl
  have H40 := Lib.hid h40
  have HD := Lib.hid hd
  have HTT := Lib.hid hT
  clear hT hnl hnd hl h40 hd hdn
  have H1 : Hid (NI w (.slice A nl c) (.slice B nd k) [] ((w.alloc (.cells #[.slice A nl c, .slice B nd k] 66)).alloc (.cells #[.pointer none, .slice none 0 0] 156))) := Lib.hid (by
    have h1 := Box2.new w (.slice A nl c) (.slice B nd k) 66
    have h2 := Lib.fresh_isBuilder 156 5 (w.alloc (.cells #[.slice A nl c, .slice B nd k] 66))
    rw [World.size_alloc] at h2
    exact ⟨h1.below ((Below.refl (w.heap.size + 1) _).alloc (by rw [World.size_alloc]; omega) _) (by omega), h2, ((Below.refl _ _).alloc (Nat.le_refl _) _).alloc (by rw [World.size_alloc]; omega) _⟩)
  obtain ⟨⟨a0, a1, a2, a3⟩, _, _⟩ := H1.out
  go_enter Tryz.func94, Tryz.ntmps94
  go_wp2
  clear a0 a1 a2 a3
  go_loopw [11] (fun v wr => ∃ j : Nat, j ≤ nl ∧ v = .int .i64 j ∧ NI w (.slice A nl c) (.slice B nd k) (rowsName (l.take j)) wr) (fun v _ => nl - (intOf v).toNat)
  case atStart => exact ⟨0, Nat.zero_le _, rfl, H1.out⟩
  case round =>
    clear H1
    obtain ⟨j, hj, rfl, hri⟩ := hrel
    have HR := Lib.hid hri
    clear hri
    obtain ⟨w0, hw0⟩ : ∃ w0, w0 = wr := ⟨_, rfl⟩
    subst hw0
    by_cases hlt : j < nl
    · have j0 : (0 : Int) ≤ (j : Int) := by omega
      have j1 : (j : Int) < (nl : Int) := by omega
      have n3 : IntKind.i64.wrap ((j : Int) + 1) = (j : Int) + 1 := by rw [IntKind.wrap_i64] <;> omega
      obtain ⟨a, ha⟩ : ∃ a, l[j]? = some a := ⟨l[j]'(by rw [← HNL.out]; exact hlt), List.getElem?_eq_getElem _⟩
      have HAA := Lib.hid ha
      obtain ⟨lb, lo, hA, hc⟩ := (HL.out.below HR.out.bel (Nat.le_refl _)).2.2 (by rw [← HNL.out]; omega)
      obtain ⟨c0, c1, c2⟩ := hc j a ha
      obtain ⟨f1, f2, f3, f4, f5, f6⟩ := HL.out.2.1 a (List.mem_of_getElem? ha)
      subst hA
      clear ha hc
      obtain ⟨su, hsu⟩ : ∃ su : ByteArray, su = ⟨(Lib.itoa a.u).toArray⟩ := ⟨_, rfl⟩
      obtain ⟨sv, hsv⟩ : ∃ sv : ByteArray, sv = ⟨(Lib.itoa a.v).toArray⟩ := ⟨_, rfl⟩
      obtain ⟨sx, hsx⟩ : ∃ sx : ByteArray, sx = ⟨(digs a.w).toArray⟩ := ⟨_, rfl⟩
      have DU : Hid (∀ W : World, Tab W → Calls Tryz.prog 112 #[.int .i64 a.u] W fun e w' => e = .returned (.string su) ∧ Below W.heap.size W w') := Lib.hid fun W h => by rw [hsu]; exact itoa_any a.u (by omega) (by omega) W h
      have DV : Hid (∀ W : World, Tab W → Calls Tryz.prog 112 #[.int .i64 a.v] W fun e w' => e = .returned (.string sv) ∧ Below W.heap.size W w') := Lib.hid fun W h => by rw [hsv]; exact itoa_any a.v (by omega) (by omega) W h
      have DX : Hid (∀ W : World, Tab W → Calls Tryz.prog 113 #[.int .u64 a.w, .int .i64 10] W fun e w' => e = .returned (.string sx) ∧ Below W.heap.size W w') := Lib.hid fun W h => by
        have h2 := formatUint_any a.w.toNat (by omega) W h
        rw [Int.toNat_of_nonneg f5] at h2
        rw [hsx]; exact h2
      have zu : su.size ≤ 21 := by rw [hsu]; exact Lib.itoa_length_le a.u (by omega) (by omega)
      have zv : sv.size ≤ 21 := by rw [hsv]; exact Lib.itoa_length_le a.v (by omega) (by omega)
      have zx : sx.size ≤ 20 := by rw [hsx]; exact (by rw [Lib.decDigits_length]; exact Lib.nDigits_le20 _ (by omega) : (Lib.decDigits a.w.toNat).length ≤ 20)
      have n1 : ¬ (9223372036854775807 < su.size + 1) := by omega
      have n2 : ¬ (9223372036854775807 < su.size + 1 + sv.size) := by omega
      have n3 : ¬ (9223372036854775807 < su.size + 1 + sv.size + 1) := by omega
      have n4 : ¬ (9223372036854775807 < su.size + 1 + sv.size + 1 + sx.size) := by omega
      have n5 : ¬ (9223372036854775807 < su.size + 1 + sv.size + 1 + sx.size + 1) := by omega
      have o1 : ¬ (9223372036854775807 ≤ su.size) := by omega
      have o3 : ¬ (9223372036854775807 ≤ su.size + 1 + sv.size) := by omega
      have o5 : ¬ (9223372036854775807 ≤ su.size + 1 + sv.size + 1 + sx.size) := by omega
      have HSU := Lib.hid hsu
      have HSV := Lib.hid hsv
      have HSX := Lib.hid hsx
      clear hsu hsv hsx f1 f2 f3 f4 f5 f6
      go_upto_region 5 with fail
      clear c0 c1 c2
      have B5 : Hid (Below w0.heap.size w0 (w0.alloc (.cells #[.int .i64 a.u, .int .i64 a.v, .int .u64 a.w] 60))) := Lib.hid ((Below.refl _ _).alloc (Nat.le_refl _) _)
      have SS : Hid ((w0.alloc (.cells #[.int .i64 a.u, .int .i64 a.v, .int .u64 a.w] 60)).drew.cell? ⟨w0.heap.size, 0, none⟩ = some (.int .i64 a.u) ∧ (w0.alloc (.cells #[.int .i64 a.u, .int .i64 a.v, .int .u64 a.w] 60)).drew.cell? ⟨w0.heap.size, 1, none⟩ = some (.int .i64 a.v) ∧ (w0.alloc (.cells #[.int .i64 a.u, .int .i64 a.v, .int .u64 a.w] 60)).drew.cell? ⟨w0.heap.size, 2, none⟩ = some (.int .u64 a.w) ∧ (w0.alloc (.cells #[.int .i64 a.u, .int .i64 a.v, .int .u64 a.w] 60)).drew.heap[w0.heap.size]? = some (.cells #[.int .i64 a.u, .int .i64 a.v, .int .u64 a.w] 60 (0, 0)) ∧ Tab (w0.alloc (.cells #[.int .i64 a.u, .int .i64 a.v, .int .u64 a.w] 60)).drew) := Lib.hid ⟨(World.cell?_alloc_new _ _ _ _).trans rfl, (World.cell?_alloc_new _ _ _ _).trans rfl, (World.cell?_alloc_new _ _ _ _).trans rfl, heap_alloc_new w0 _, (HTT.out.below (HR.out.bel.trans (B5.out.mono HR.out.bel.size)) (Nat.le_refl _)).below (B := (w0.alloc (.cells #[.int .i64 a.u, .int .i64 a.v, .int .u64 a.w] 60)).heap.size) ((Below.refl _ _).drew) (Nat.le_refl _)⟩
      have NI5 := Lib.hid (HR.out.later B5.out)
      generalize w0.alloc (.cells #[.int .i64 a.u, .int .i64 a.v, .int .u64 a.w] 60) = w5 at B5 SS NI5 ⊢
      have KK : Hid (∀ (W W' : World), (W.cell? ⟨w0.heap.size, 0, none⟩ = some (.int .i64 a.u) ∧ W.cell? ⟨w0.heap.size, 1, none⟩ = some (.int .i64 a.v) ∧ W.cell? ⟨w0.heap.size, 2, none⟩ = some (.int .u64 a.w) ∧ W.heap[w0.heap.size]? = some (.cells #[.int .i64 a.u, .int .i64 a.v, .int .u64 a.w] 60 (0, 0)) ∧ Tab W) → Below W.heap.size W W' → W'.cell? ⟨w0.heap.size, 0, none⟩ = some (.int .i64 a.u) ∧ W'.cell? ⟨w0.heap.size, 1, none⟩ = some (.int .i64 a.v) ∧ W'.cell? ⟨w0.heap.size, 2, none⟩ = some (.int .u64 a.w) ∧ W'.heap[w0.heap.size]? = some (.cells #[.int .i64 a.u, .int .i64 a.v, .int .u64 a.w] 60 (0, 0)) ∧ Tab W') := Lib.hid fun W W' h hW => ⟨cellL h.1 hW, cellL h.2.1 hW, cellL h.2.2.1 hW, (hW.block _ (Array.getElem?_eq_some_iff.1 h.2.2.2.1).1).trans h.2.2.2.1, h.2.2.2.2.below hW (Nat.le_refl _)⟩
      have KO : Hid (∀ (W W' : World), (W.cell? ⟨w0.heap.size, 0, none⟩ = some (.int .i64 a.u) ∧ W.cell? ⟨w0.heap.size, 1, none⟩ = some (.int .i64 a.v) ∧ W.cell? ⟨w0.heap.size, 2, none⟩ = some (.int .u64 a.w) ∧ W.heap[w0.heap.size]? = some (.cells #[.int .i64 a.u, .int .i64 a.v, .int .u64 a.w] 60 (0, 0)) ∧ Tab W) → Lib.OthersKept 5 (some (w.heap.size + 1)) W W' → Tab W' → W'.cell? ⟨w0.heap.size, 0, none⟩ = some (.int .i64 a.u) ∧ W'.cell? ⟨w0.heap.size, 1, none⟩ = some (.int .i64 a.v) ∧ W'.cell? ⟨w0.heap.size, 2, none⟩ = some (.int .u64 a.w) ∧ W'.heap[w0.heap.size]? = some (.cells #[.int .i64 a.u, .int .i64 a.v, .int .u64 a.w] 60 (0, 0)) ∧ Tab W') := Lib.hid fun W W' h hW hT => by
        have hp : w0.heap.size ≠ w.heap.size + 1 := by have := HR.out.bd; have h2 : w.heap.size + 1 < w0.heap.size := by rcases this with q | q <;> exact q.lt
                                                       omega
        have hh := hW _ _ h.2.2.2.1 (fun e => hp (Option.some.inj e)) (fun c fz q => by cases q)
        have hc : ∀ i, W'.cell? ⟨w0.heap.size, i, none⟩ = W.cell? ⟨w0.heap.size, i, none⟩ := fun i => World.cell?_of_block (w := W) (hh.trans h.2.2.2.1.symm)
        exact ⟨(hc 0).trans h.1, (hc 1).trans h.2.1, (hc 2).trans h.2.2.1, hh, hT⟩
      have BT : Hid (∀ W : World, (W.cell? ⟨w0.heap.size, 0, none⟩ = some (.int .i64 a.u) ∧ W.cell? ⟨w0.heap.size, 1, none⟩ = some (.int .i64 a.v) ∧ W.cell? ⟨w0.heap.size, 2, none⟩ = some (.int .u64 a.w) ∧ W.heap[w0.heap.size]? = some (.cells #[.int .i64 a.u, .int .i64 a.v, .int .u64 a.w] 60 (0, 0)) ∧ Tab W) → Tab W) := Lib.hid fun W h => h.2.2.2.2
      have CH : Hid (∀ W W' : World, Below w5.heap.size w5 W → Below W.heap.size W W' → Below w5.heap.size w5 W') := Lib.hid fun W W' h h2 => h.trans (h2.mono h.size)
      have C0 : Hid (Below w5.heap.size w5 w5.drew) := Lib.hid (Below.refl _ _).drew
      have DWR : Hid (∀ W : World, Below w5.heap.size w5 W → Calls Tryz.prog 111 #[.pointer (some ⟨w.heap.size + 1, 0, none⟩), .string (su ++ ⟨#[44]⟩ ++ sv ++ ⟨#[44]⟩ ++ sx ++ ⟨#[59]⟩)] W fun e w' => ∃ z, e = .returned (.tuple #[z, .nilIface]) ∧ NI w (.slice (some ⟨lb, lo, none⟩) nl c) (.slice B nd k) (rowsName (l.take (j + 1))) w' ∧ Lib.OthersKept 5 (some (w.heap.size + 1)) W w' ∧ Tab w') := Lib.hid fun W hW => by
        have hn := NI5.out.later hW
        have h2 : w.heap.size + 1 < W.heap.size := by rcases hn.bd with q | q <;> exact q.lt
        have hrow : (su ++ ⟨#[44]⟩ ++ sv ++ ⟨#[44]⟩ ++ sx ++ ⟨#[59]⟩ : ByteArray) = ⟨(rowName a).toArray⟩ := by
          rw [HSU.out, HSV.out, HSX.out]
          simp only [ByteArray.mk_append_mk]
          apply ByteArray.ext
          simp [rowName]
        have hsn : rowsName (l.take (j + 1)) = rowsName (l.take j) ++ rowName a := by
          obtain ⟨hl1, he1⟩ := List.getElem?_eq_some_iff.1 HAA.out
          unfold rowsName
          rw [List.take_succ_eq_append_getElem hl1, List.flatMap_append, he1]
          simp
        rw [hrow]
        refine (write_any _ _ _ _ W hn.bd ?_ (by omega)).mono ?_
        · have h3 := rowsName_le (l.take j) (fun x hx => HL.out.2.1 x (List.mem_of_mem_take hx))
          have h4 := rowName_le a (HL.out.2.1 a (List.mem_of_getElem? HAA.out))
          have h5 : (l.take j).length ≤ 1000 := by have := H40.out; have := List.length_take_le j l; omega
          have h6 := Nat.mul_le_mul_right 70 h5
          rw [byteCells_len]
          show _ + (rowName a).toArray.size ≤ _
          rw [List.size_toArray]
          omega
        · rintro e w' ⟨rfl, h1, h7, h3⟩
          refine ⟨_, rfl, ⟨hn.b0.below h7 (by omega), .inr ?_, hn.bel.trans (h7.mono (by omega))⟩, h3, (HTT.out.below (hn.bel.trans (h7.mono (by omega))) (Nat.le_refl _))⟩
          rw [hsn, byteCells_append]
          rw [strCells_mk] at h1
          exact h1
      go_wp2
      go_region_held3 (fun w' => w'.cell? ⟨w0.heap.size, 0, none⟩ = some (.int .i64 a.u) ∧ w'.cell? ⟨w0.heap.size, 1, none⟩ = some (.int .i64 a.v) ∧ w'.cell? ⟨w0.heap.size, 2, none⟩ = some (.int .u64 a.w) ∧ w'.heap[w0.heap.size]? = some (.cells #[.int .i64 a.u, .int .i64 a.v, .int .u64 a.w] 60 (0, 0)) ∧ Tab w')
        (first | (with_reducible exact SS.out) | (with_reducible assumption) | ((with_reducible refine KK.out ?_ _ ?_ ?_); rotate_left 2; (with_reducible assumption); first | (with_reducible exact SS.out) | (with_reducible assumption)) | ((with_reducible refine KO.out ?_ _ ?_ ?_ ?_); rotate_left 2; (with_reducible assumption); (with_reducible assumption); first | (with_reducible exact SS.out) | (with_reducible assumption)))
        (first | (go_at_call 112; ((with_reducible refine (DU.out _ ?_).mono ?_); (focus ((with_reducible refine BT.out _ ?_); first | (with_reducible exact SS.out) | (with_reducible assumption))); rintro e wa ⟨rfl, hb1⟩)) | (go_at_call 112; ((with_reducible refine (DV.out _ ?_).mono ?_); (focus ((with_reducible refine BT.out _ ?_); first | (with_reducible exact SS.out) | (with_reducible assumption))); rintro e wb ⟨rfl, hb2⟩)) | (go_at_call 113; ((with_reducible refine (DX.out _ ?_).mono ?_); (focus ((with_reducible refine BT.out _ ?_); first | (with_reducible exact SS.out) | (with_reducible assumption))); rintro e wc ⟨rfl, hb3⟩)) | (go_at_call 111; ((with_reducible refine (DWR.out _ ?_).mono ?_); (focus ((repeat ((with_reducible refine CH.out ?_ _ ?_ ?_); rotate_left 2; (with_reducible assumption))); (with_reducible exact C0.out))); rintro e wd ⟨z, rfl, hn4, ho4, ht4⟩)))
      all_goals
        have HN4 := Lib.hid hn4
        clear hn4 ho4 ht4
        go_wp2
        go_roundw
        case rel => exact ⟨j + 1, by omega, by go_num, HN4.out⟩
        case measure => simp [intOf]; omega
    · obtain rfl : j = nl := by omega
      obtain ⟨⟨c0, c1, f0, f1⟩, _, _⟩ := HR.out
      have HR2 : Hid (NI w (.slice A j c) (.slice B nd k) (rowsName l) w0) := Lib.hid (by
        have := HR.out
        rw [List.take_of_length_le (by rw [← HNL.out]; omega)] at this
        exact this)
      clear HR
      go_wp2
      clear c0 c1 f0 f1
      go_loopw [34] (fun v wr => ∃ i : Nat, i ≤ nd ∧ v = .int .i64 i ∧ NI w (.slice A j c) (.slice B nd k) (rowsName l ++ bitsName (d.take i)) wr) (fun v _ => nd - (intOf v).toNat)
      case atStart => exact ⟨0, Nat.zero_le _, rfl, by simpa [bitsName] using HR2.out⟩
      case round =>
        clear HR2 hlt hj
        obtain ⟨i, hi, rfl, hri⟩ := hrel
        have HR := Lib.hid hri
        clear hri
        obtain ⟨w5, hw5⟩ : ∃ w5, w5 = wr := ⟨_, rfl⟩
        subst hw5
        by_cases hlt : i < nd
        · have i0 : (0 : Int) ≤ (i : Int) := by omega
          have i1 : (i : Int) < (nd : Int) := by omega
          have n3 : IntKind.i64.wrap ((i : Int) + 1) = (i : Int) + 1 := by rw [IntKind.wrap_i64] <;> omega
          obtain ⟨x, hx⟩ : ∃ x, d[i]? = some x := ⟨d[i]'(by rw [← HND.out]; exact hlt), List.getElem?_eq_getElem _⟩
          have HX := Lib.hid hx
          obtain ⟨db, dof, hB, hc⟩ := (HD.out.below HR.out.bel (Nat.le_refl _)) (by rw [List.length_map, ← HND.out]; omega)
          have cd := hc i (.bool x) (by rw [List.getElem?_map, hx]; rfl)
          subst hB
          clear hx hc
          have DB : Hid (∀ W : World, Calls Tryz.prog 114 #[.bool x] W fun e w' => e = .returned (.string ⟨(Lib.formatBool x).toArray⟩) ∧ W = w') := Lib.hid fun W => (Tryz.strconv_FormatBool x W).mono fun e w' h => ⟨h.1, h.2.symm⟩
          have DWR : Hid (Calls Tryz.prog 111 #[.pointer (some ⟨w.heap.size + 1, 0, none⟩), .string ⟨(Lib.formatBool x).toArray⟩] w5 fun e w' => ∃ z, e = .returned (.tuple #[z, .nilIface]) ∧ NI w (.slice A j c) (.slice (some ⟨db, dof, none⟩) nd k) (rowsName l ++ bitsName (d.take (i + 1))) w') := Lib.hid (by
            have hn := HR.out
            have h2 : w.heap.size + 1 < w5.heap.size := by rcases hn.bd with q | q <;> exact q.lt
            have hsn : bitsName (d.take (i + 1)) = bitsName (d.take i) ++ Lib.formatBool x := by
              obtain ⟨hl1, he1⟩ := List.getElem?_eq_some_iff.1 HX.out
              unfold bitsName
              rw [List.take_succ_eq_append_getElem hl1, List.flatMap_append, he1]
              simp
            refine (write_any _ _ _ _ w5 hn.bd ?_ (by omega)).mono ?_
            · have h3 := rowsName_le l HL.out.2.1
              have h4 := bitsName_le (d.take i)
              have h5 : (d.take i).length ≤ i := List.length_take_le i d
              have h6 := H40.out
              have h7 : (Lib.formatBool x).length ≤ 5 := by cases x <;> decide
              rw [byteCells_len, List.length_append]
              show _ + (Lib.formatBool x).toArray.size ≤ _
              rw [List.size_toArray]
              omega
            · rintro e w' ⟨rfl, h1, h7, h3⟩
              refine ⟨_, rfl, ⟨hn.b0.below h7 (by omega), .inr ?_, hn.bel.trans (h7.mono (by omega))⟩⟩
              rw [hsn, ← List.append_assoc, byteCells_append]
              rw [strCells_mk] at h1
              exact h1)
          generalize (⟨(Lib.formatBool x).toArray⟩ : ByteArray) = sb at DB DWR
          obtain ⟨⟨c0, c1, f0, f1⟩, _, _⟩ := HR.out
          go_wp2_with (first
            | (go_at_call 114; ((with_reducible refine (DB.out _).mono ?_); rintro e w' ⟨rfl, rfl⟩))
            | (go_at_call 111; ((with_reducible refine DWR.out.mono ?_); rintro e w6 ⟨z, rfl, hn4⟩; have HN4 := Lib.hid hn4; clear hn4)))
          go_roundw
          case rel => exact ⟨i + 1, by omega, by go_num, HN4.out⟩
          case measure => simp [intOf]; omega
        · obtain rfl : i = nd := by omega
          have DS : Hid (Calls Tryz.prog 115 #[.pointer (some ⟨w.heap.size + 1, 0, none⟩)] w5 fun e w' => e = .returned (.string ⟨(nameOf l d).toArray⟩) ∧ Below (w.heap.size + 1) w5 w') := Lib.hid (by
            have hn := HR.out
            rw [List.take_of_length_le (by rw [← HND.out]; omega)] at hn
            have h2 : w.heap.size + 1 < w5.heap.size := by rcases hn.bd with q | q <;> exact q.lt
            exact Tryz.Builder_String_any _ _ _ w5 hn.bd (by omega))
          obtain ⟨sb, hsb⟩ : ∃ sb : ByteArray, sb = ⟨(nameOf l d).toArray⟩ := ⟨_, rfl⟩
          rw [← hsb] at DS
          have HSB := Lib.hid hsb
          clear hsb
          go_wp2_with (go_at_call 115; ((with_reducible refine DS.out.mono ?_); rintro e w6 ⟨rfl, hb⟩; have HB := Lib.hid hb; clear hb))
          go_ret
          exact ⟨congrArg (fun s => Ending.returned (Value.string s)) HSB.out, HR.out.bel.trans (HB.out.mono (by omega))⟩
end Go.Proofs.YtpdfmfkoopdfgaaGreatDoor
