/- GSame, GOuts. -/
import Derived.Test.YtpdfmfkoopdfgaaGreatDoorB08
import Derived.Laws.StructEq
set_option linter.unusedVariables false
set_option linter.unusedSimpArgs false
section
namespace Go.Proofs.YtpdfmfkoopdfgaaGreatDoor.Gr
set_option maxRecDepth 100000
open Go.RowKit Aid

theorem Arc.ext' {a b : Arc} (h1 : a.u = b.u) (h2 : a.v = b.v) (h3 : a.w = b.w) : a = b := by cases a; cases b; simp_all
instance : DecidableEq Arc := fun a b => if h : a.u = b.u ∧ a.v = b.v ∧ a.w = b.w then isTrue (Arc.ext' h.1 h.2.1 h.2.2) else isFalse (fun e => h (by rw [e]; exact ⟨rfl, rfl, rfl⟩))
def sameB (l k : List Arc) : Bool := decide (l = k)
theorem same_len {l k : List Arc} (h : l.length ≠ k.length) : sameB l k = false := decide_eq_false fun e => h (by rw [e])
theorem same_at {l k : List Arc} {i : Nat} {a b : Arc} (ha : l[i]? = some a) (hb : k[i]? = some b) (h : a ≠ b) : sameB l k = false := decide_eq_false fun e => h (by rw [e, hb] at ha; cases ha; rfl)
theorem same_all {l k : List Arc} (hl : l.length = k.length) (h : ∀ (i : Nat) (a b : Arc), l[i]? = some a → k[i]? = some b → a = b) : sameB l k = true := decide_eq_true (by
  apply List.ext_getElem hl
  intro i h1 h2
  exact h i _ _ (List.getElem?_eq_getElem h1) (List.getElem?_eq_getElem h2))
theorem run_neq_arc (a b : Arc) (w : World) : (binOp .neq 60 (.agg #[.int .i64 a.u, .int .i64 a.v, .int .u64 a.w]) (.agg #[.int .i64 b.u, .int .i64 b.v, .int .u64 b.w])).run Tryz.prog w = .ok (.bool (!decide (a = b))) w := by
  have h1 : Tryz.prog.underlying 60 = some (.struct (Tryz.prog.fieldsOf 60)) := by kernel_rfl
  have h2 : Tryz.prog.stoodInHeld 60 = false := by kernel_rfl
  rw [run_neq_struct, run_equalIn_agg w 9999 60 _ _ h1 h2]
  have hf : (Tryz.prog.fieldsOf 60) = (match Tryz.prog.underlying 60 with | some (.struct fs) => fs | _ => #[]) := rfl
  rw [hf, Tryz.underlying60]
  simp [Op.eqFields, part, run_equalIn_int (P := Tryz.prog) w _ 3 .i64 .i64 _ _ Tryz.underlying3, run_equalIn_int (P := Tryz.prog) w _ 36 .u64 .u64 _ _ Tryz.underlying36]
  by_cases q : a = b
  · subst q; simp
  · have q' : ¬ (a.u = b.u ∧ a.v = b.v ∧ a.w = b.w) := fun h => q (Arc.ext' h.1 h.2.1 h.2.2)
    by_cases g1 : a.u = b.u
    · by_cases g2 : a.v = b.v
      · have g3 : ¬ a.w = b.w := fun h => q' ⟨g1, g2, h⟩
        simp [g1, g2, g3, q]
      · simp [g1, g2, q]
    · simp [g1, q]
theorem noGuard : Tryz.prog.eqGuardType Tryz.prog.depth 60 = false := by kernel_rfl
set_option maxHeartbeats 2000000 in
theorem refSame_any (A B : Option Addr) (c d n m : Nat) (l k : List Arc) (w : World) (hn : n = l.length) (hm : m = k.length) (hl : Arcs w A l) (hk : Arcs w B k) (h40 : l.length ≤ 1000) :
    Calls Tryz.prog 17 #[.slice A n c, .slice B m d] w fun e w' => e = .returned (.bool (sameB l k)) ∧ Below w.heap.size w w' := by
  subst hn hm
  have HL := Lib.hid hl
  have HK := Lib.hid hk
  clear hl hk
  by_cases hlen : l.length = k.length
  · have hle : ((l.length : Int) == (k.length : Int)) = true := by simp; omega
    have HD := fun (w : World) n => Lib.hid (below_drewN (Below.refl w.heap.size w) n)
    go_enter Tryz.func17, Tryz.ntmps17
    go_wp2
    go_loopw [5] (fun v wr => ∃ i : Nat, i ≤ l.length ∧ v = .int .i64 i ∧ (∀ (j : Nat) (a b : Arc), j < i → l[j]? = some a → k[j]? = some b → a = b) ∧ Below w.heap.size w wr) (fun v _ => l.length - (intOf v).toNat)
    case atStart => exact ⟨0, Nat.zero_le _, rfl, fun j a b hj => by omega, Below.refl _ _⟩
    case round =>
      obtain ⟨i, hi, rfl, hall, hb⟩ := hrel
      have HA := Lib.hid hall
      have HB := Lib.hid hb
      clear hall hb
      by_cases hlt : i < l.length
      · have hlt2 : i < k.length := by omega
        obtain ⟨b1, o1, hA, hcs⟩ := (HL.out.below HB.out (Nat.le_refl _)).2.2 (by omega)
        obtain ⟨c1, c2, c3⟩ := hcs i l[i] (List.getElem?_eq_getElem hlt)
        obtain ⟨b2, o2, hB, hds⟩ := (HK.out.below HB.out (Nat.le_refl _)).2.2 (by omega)
        obtain ⟨d1, d2, d3⟩ := hds i k[i] (List.getElem?_eq_getElem hlt2)
        clear hcs hds
        subst hA hB
        have hla := Lib.hid (List.getElem?_eq_getElem hlt)
        have hkb := Lib.hid (List.getElem?_eq_getElem hlt2)
        generalize l[i] = a at c1 c2 c3 hla
        generalize k[i] = b at d1 d2 d3 hkb
        have i0 : (0 : Int) ≤ (i : Int) := by omega
        have i1 : (i : Int) < (l.length : Int) := by omega
        have i2 : (i : Int) < (k.length : Int) := by omega
        have hm := noGuard
        by_cases hab : a = b
        · have hne : ∀ w, (binOp .neq 60 (.agg #[.int .i64 a.u, .int .i64 a.v, .int .u64 a.w]) (.agg #[.int .i64 b.u, .int .i64 b.v, .int .u64 b.w])).run Tryz.prog w = .ok (.bool false) w := fun w => by rw [run_neq_arc, decide_eq_true hab]; rfl
          have hab' := Lib.hid hab
          clear hab
          go_wp2
          go_quiet (fail)
          go_wp2
          refine ⟨⟨i + 1, by omega, by go_num, fun j x y hj hx hy => ?_, below_drewN HB.out _⟩, by simp [intOf]; omega⟩
          rcases Nat.lt_or_ge j i with h | h
          · exact HA.out j x y h hx hy
          · obtain rfl : j = i := by omega
            rw [hla.out] at hx; rw [hkb.out] at hy; cases hx; cases hy; exact hab'.out
        · have hne : ∀ w, (binOp .neq 60 (.agg #[.int .i64 a.u, .int .i64 a.v, .int .u64 a.w]) (.agg #[.int .i64 b.u, .int .i64 b.v, .int .u64 b.w])).run Tryz.prog w = .ok (.bool true) w := fun w => by rw [run_neq_arc, decide_eq_false hab]; rfl
          have hx := Lib.hid (same_at hla.out hkb.out hab)
          clear hab
          go_wp2
          go_quiet (fail)
          go_wp2
          go_ret
          exact ⟨by rw [hx.out]; rfl, below_drewN HB.out _⟩
      · have hx := Lib.hid (same_all hlen (fun j a b ha hb => HA.out j a b (by have := (List.getElem?_eq_some_iff.1 ha).1; omega) ha hb))
        go_wp2
        go_ret
        exact ⟨by rw [hx.out]; rfl, HB.out⟩
  · have hx := Lib.hid (same_len hlen)
    have hle : ((l.length : Int) == (k.length : Int)) = false := by simp; omega
    have hle2 : ¬ ((l.length : Int) = (k.length : Int)) := by omega
    go_enter Tryz.func17, Tryz.ntmps17
    go_wp2
    go_ret
    exact ⟨by rw [hx.out]; rfl, Below.refl _ _⟩
set_option maxHeartbeats 2000000 in
theorem equal_any (A B : Option Addr) (c d n m : Nat) (l k : List Arc) (w : World) (hn : n = l.length) (hm : m = k.length) (hl : Arcs w A l) (hk : Arcs w B k) (h40 : l.length ≤ 1000) :
    Calls Tryz.prog 44 #[.slice A n c, .slice B m d] w fun e w' => e = .returned (.bool (sameB l k)) ∧ Below w.heap.size w w' := by
  subst hn hm
  have HL := Lib.hid hl
  have HK := Lib.hid hk
  clear hl hk
  by_cases hlen : l.length = k.length
  · have hle : ((l.length : Int) == (k.length : Int)) = true := by simp; omega
    have HD := fun (w : World) n => Lib.hid (below_drewN (Below.refl w.heap.size w) n)
    go_enter Tryz.func44, Tryz.ntmps44
    go_wp2
    go_loopw [13] (fun v wr => ∃ i : Nat, i ≤ l.length ∧ v = .int .i64 i ∧ (∀ (j : Nat) (a b : Arc), j < i → l[j]? = some a → k[j]? = some b → a = b) ∧ Below w.heap.size w wr) (fun v _ => l.length - (intOf v).toNat)
    case atStart => exact ⟨0, Nat.zero_le _, rfl, fun j a b hj => by omega, Below.refl _ _⟩
    case round =>
      obtain ⟨i, hi, rfl, hall, hb⟩ := hrel
      have HA := Lib.hid hall
      have HB := Lib.hid hb
      clear hall hb
      by_cases hlt : i < l.length
      · have hlt2 : i < k.length := by omega
        obtain ⟨b1, o1, hA, hcs⟩ := (HL.out.below HB.out (Nat.le_refl _)).2.2 (by omega)
        obtain ⟨c1, c2, c3⟩ := hcs i l[i] (List.getElem?_eq_getElem hlt)
        obtain ⟨b2, o2, hB, hds⟩ := (HK.out.below HB.out (Nat.le_refl _)).2.2 (by omega)
        obtain ⟨d1, d2, d3⟩ := hds i k[i] (List.getElem?_eq_getElem hlt2)
        clear hcs hds
        subst hA hB
        have hla := Lib.hid (List.getElem?_eq_getElem hlt)
        have hkb := Lib.hid (List.getElem?_eq_getElem hlt2)
        generalize l[i] = a at c1 c2 c3 hla
        generalize k[i] = b at d1 d2 d3 hkb
        have i0 : (0 : Int) ≤ (i : Int) := by omega
        have i1 : (i : Int) < (l.length : Int) := by omega
        have i2 : (i : Int) < (k.length : Int) := by omega
        have hm := noGuard
        by_cases hab : a = b
        · have hne : ∀ w, (binOp .neq 60 (.agg #[.int .i64 a.u, .int .i64 a.v, .int .u64 a.w]) (.agg #[.int .i64 b.u, .int .i64 b.v, .int .u64 b.w])).run Tryz.prog w = .ok (.bool false) w := fun w => by rw [run_neq_arc, decide_eq_true hab]; rfl
          have hab' := Lib.hid hab
          clear hab
          go_wp2
          go_quiet (fail)
          go_wp2
          refine ⟨⟨i + 1, by omega, by go_num, fun j x y hj hx hy => ?_, below_drewN HB.out _⟩, by simp [intOf]; omega⟩
          rcases Nat.lt_or_ge j i with h | h
          · exact HA.out j x y h hx hy
          · obtain rfl : j = i := by omega
            rw [hla.out] at hx; rw [hkb.out] at hy; cases hx; cases hy; exact hab'.out
        · have hne : ∀ w, (binOp .neq 60 (.agg #[.int .i64 a.u, .int .i64 a.v, .int .u64 a.w]) (.agg #[.int .i64 b.u, .int .i64 b.v, .int .u64 b.w])).run Tryz.prog w = .ok (.bool true) w := fun w => by rw [run_neq_arc, decide_eq_false hab]; rfl
          have hx := Lib.hid (same_at hla.out hkb.out hab)
          clear hab
          go_wp2
          go_quiet (fail)
          go_wp2
          go_ret
          exact ⟨by rw [hx.out]; rfl, below_drewN HB.out _⟩
      · have hx := Lib.hid (same_all hlen (fun j a b ha hb => HA.out j a b (by have := (List.getElem?_eq_some_iff.1 ha).1; omega) ha hb))
        go_wp2
        go_ret
        exact ⟨by rw [hx.out]; rfl, HB.out⟩
  · have hx := Lib.hid (same_len hlen)
    have hle : ((l.length : Int) == (k.length : Int)) = false := by simp; omega
    have hle2 : ¬ ((l.length : Int) = (k.length : Int)) := by omega
    go_enter Tryz.func44, Tryz.ntmps44
    go_wp2
    go_ret
    exact ⟨by rw [hx.out]; rfl, Below.refl _ _⟩
theorem same_any (A B : Option Addr) (c d n m : Nat) (l k : List Arc) (w : World) (hn : n = l.length) (hm : m = k.length) (hl : Arcs w A l) (hk : Arcs w B k) (h40 : l.length ≤ 1000) :
    Calls Tryz.prog 27 #[.slice A n c, .slice B m d] w fun e w' => e = .returned (.bool (sameB l k)) ∧ Below w.heap.size w w' := by
  have H := Lib.hid (equal_any A B c d n m l k w hn hm hl hk h40)
  clear hl hk hn hm
  go_enter Tryz.func27, Tryz.ntmps27
  go_wp2_with (go_at_call 44; ((with_reducible refine H.out.mono ?_); rintro e w' ⟨rfl, hb⟩; have HB := Lib.hid hb; clear hb))
  go_ret
  exact ⟨rfl, HB.out⟩
end Go.Proofs.YtpdfmfkoopdfgaaGreatDoor.Gr
end
section
namespace Go.Proofs.YtpdfmfkoopdfgaaGreatDoor.Gr
set_option maxRecDepth 100000
open Go.RowKit Aid

/-- An answer. -/
structure Ans where
  err : Int
  is : Bool
  n : Int
  w : Int
  list : List Int
def Ans.val (a : Ans) (A : Option Addr) (c : Nat) : Value := .agg #[.int .i64 a.err, .bool a.is, .int .i64 a.n, .int .u64 a.w, .slice A a.list.length c]
theorem Ans.ext' {a b : Ans} (h1 : a.err = b.err) (h2 : a.is = b.is) (h3 : a.n = b.n) (h4 : a.w = b.w) (h5 : a.list = b.list) : a = b := by cases a; cases b; simp_all
instance : DecidableEq Ans := fun a b => if h : a.err = b.err ∧ a.is = b.is ∧ a.n = b.n ∧ a.w = b.w ∧ a.list = b.list then isTrue (Ans.ext' h.1 h.2.1 h.2.2.1 h.2.2.2.1 h.2.2.2.2) else isFalse (fun e => h (by rw [e]; exact ⟨rfl, rfl, rfl, rfl, rfl⟩))
def outsB (a b : Ans) : Bool := decide (a = b)
end Go.Proofs.YtpdfmfkoopdfgaaGreatDoor.Gr
end
