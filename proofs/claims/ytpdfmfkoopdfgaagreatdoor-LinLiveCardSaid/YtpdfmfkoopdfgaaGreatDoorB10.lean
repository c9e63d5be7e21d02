/- HBase, HPt0, HSmall, HRefRight, HKeyV. -/
import Derived.Test.YtpdfmfkoopdfgaaGreatDoorRows
import Derived.Test.YtpdfmfkoopdfgaaGreatDoorB06
import Derived.WalkKit
import Derived.Outline
import Derived.OwnWalk
import Derived.Below
import Derived.OpenShut
import Derived.Lib.Hide
import Derived.WalkLawsBesides
import Derived.ProofKit
import Derived.RegionTactic
import Derived.Deep.RegionLaw
import Derived.Deep.RegionWith
import Derived.Deep.RegionHeld3
import Derived.Lib.SliceRun
set_option linter.unusedVariables false
set_option linter.unusedSimpArgs false
section
namespace Go.Proofs.YtpdfmfkoopdfgaaGreatDoor.Hs
set_option maxRecDepth 100000
open Go.RowKit Aid

/-- A call's numbers. -/
structure Cl where
  me : Int
  k : Int
  u : Int
  v : Int
  x : Int
  era : Int
  fr : Int
  to : Int
  err : Int
  is : Bool
  n : Int
  w : Int
  list : List Int
  A : Option Addr
  cap : Nat
/-- A call; its list lies at A. -/
def Cl.val (a : Cl) : Value := .agg #[.int .i64 a.me, .int .i64 a.k, .int .i64 a.u, .int .i64 a.v, .int .u64 a.x, .int .i64 a.era, .int .i64 a.fr, .int .i64 a.to, .int .i64 a.err, .bool a.is, .int .i64 a.n, .int .u64 a.w, .slice a.A a.list.length a.cap]
def Cl.cells (a : Cl) : List Value := [.int .i64 a.me, .int .i64 a.k, .int .i64 a.u, .int .i64 a.v, .int .u64 a.x, .int .i64 a.era, .int .i64 a.fr, .int .i64 a.to, .int .i64 a.err, .bool a.is, .int .i64 a.n, .int .u64 a.w, .slice a.A a.list.length a.cap]
/-- A slice of calls that lies in memory, their lists, too. -/
def Cls (w : World) (A : Option Addr) (l : List Cl) : Prop :=
  (∀ a ∈ l, Sl w a.A (a.list.map (Value.int .i64))) ∧ (0 < l.length → ∃ b off, A = some ⟨b, off, none⟩ ∧ ∀ i a, l[i]? = some a → w.rangeAt b (off + i * 13) a.cells)
theorem Cls.below {B : Nat} {w w' : World} {A : Option Addr} {l : List Cl} (h : Cls w A l) (hb : Below B w w') (hB : w.heap.size ≤ B) : Cls w' A l := by
  obtain ⟨h1, h2⟩ := h
  refine ⟨fun a ha => (h1 a ha).below hb hB, fun hp => ?_⟩
  obtain ⟨b, off, hA, hc⟩ := h2 hp
  refine ⟨b, off, hA, fun i a hi j v hj => ?_⟩
  have := hc i a hi j v hj
  exact (hb.cell (p := ⟨b, off + i * 13 + j, none⟩) (Nat.lt_of_lt_of_le (World.block_lt_of_cell? _ _ this) hB)).trans this
/-- One call's cells. -/
def At (w : World) (b o : Nat) (a : Cl) : Prop :=
  w.cell? ⟨b, o, none⟩ = some (.int .i64 a.me) ∧ w.cell? ⟨b, o + 1, none⟩ = some (.int .i64 a.k) ∧ w.cell? ⟨b, o + 2, none⟩ = some (.int .i64 a.u) ∧ w.cell? ⟨b, o + 3, none⟩ = some (.int .i64 a.v) ∧ w.cell? ⟨b, o + 4, none⟩ = some (.int .u64 a.x) ∧ w.cell? ⟨b, o + 5, none⟩ = some (.int .i64 a.era) ∧ w.cell? ⟨b, o + 6, none⟩ = some (.int .i64 a.fr) ∧ w.cell? ⟨b, o + 7, none⟩ = some (.int .i64 a.to) ∧ w.cell? ⟨b, o + 8, none⟩ = some (.int .i64 a.err) ∧ w.cell? ⟨b, o + 9, none⟩ = some (.bool a.is) ∧ w.cell? ⟨b, o + 10, none⟩ = some (.int .i64 a.n) ∧ w.cell? ⟨b, o + 11, none⟩ = some (.int .u64 a.w) ∧ w.cell? ⟨b, o + 12, none⟩ = some (.slice a.A a.list.length a.cap)
theorem at_range {w : World} {b o : Nat} {a : Cl} (h : w.rangeAt b o a.cells) : At w b o a :=
  ⟨h 0 _ rfl, h 1 _ rfl, h 2 _ rfl, h 3 _ rfl, h 4 _ rfl, h 5 _ rfl, h 6 _ rfl, h 7 _ rfl, h 8 _ rfl, h 9 _ rfl, h 10 _ rfl, h 11 _ rfl, h 12 _ rfl⟩
theorem Cls.get {w : World} {A : Option Addr} {l : List Cl} (h : Cls w A l) {i : Nat} {a : Cl} (hi : l[i]? = some a) : ∃ b off, A = some ⟨b, off, none⟩ ∧ At w b (off + i * 13) a := by
  obtain ⟨b, off, hA, hc⟩ := h.2 (by have := (List.getElem?_eq_some_iff.1 hi).1; omega)
  exact ⟨b, off, hA, at_range (hc i a hi)⟩
theorem At.below {B : Nat} {w w' : World} {b o : Nat} {a : Cl} (h : At w b o a) (hb : Below B w w') (hB : w.heap.size ≤ B) : At w' b o a := by
  obtain ⟨h0, h1, h2, h3, h4, h5, h6, h7, h8, h9, h10, h11, h12⟩ := h
  have l0 := Nat.lt_of_lt_of_le (World.block_lt_of_cell? w _ h0) hB
  have t : ∀ {j : Nat} {v : Value}, w.cell? ⟨b, j, none⟩ = some v → w'.cell? ⟨b, j, none⟩ = some v := fun {j} {_} h => (hb.cell (p := ⟨b, j, none⟩) l0).trans h
  exact ⟨t h0, t h1, t h2, t h3, t h4, t h5, t h6, t h7, t h8, t h9, t h10, t h11, t h12⟩
/-- The box of a call. -/
abbrev bx (a : Cl) : Obj := .cells #[.int .i64 a.me, .int .i64 a.k, .int .i64 a.u, .int .i64 a.v, .int .u64 a.x, .int .i64 a.era, .int .i64 a.fr, .int .i64 a.to, .int .i64 a.err, .bool a.is, .int .i64 a.n, .int .u64 a.w, .slice a.A a.list.length a.cap] 43
theorem at_box (w : World) (a : Cl) : At (w.alloc (bx a)) w.heap.size 0 a := by
  unfold bx
  refine ⟨?_, ?_, ?_, ?_, ?_, ?_, ?_, ?_, ?_, ?_, ?_, ?_, ?_⟩ <;> (rw [World.cell?_alloc_new]; rfl)
theorem below_drewN {B : Nat} {w W : World} (h : Below B w W) : ∀ n, Below B w (W.drewN n)
  | 0 => h
  | n + 1 => (below_drewN h n).drew
end Go.Proofs.YtpdfmfkoopdfgaaGreatDoor.Hs
end
section
namespace Go.Proofs.YtpdfmfkoopdfgaaGreatDoor.Hs
set_option maxRecDepth 100000
open Go.RowKit Aid

/-- A point (its list is nil). -/
structure Pt where
  k : Int
  u : Int
  v : Int
  x : Int
  err : Int
  is : Bool
  n : Int
  w : Int
  any : Bool
  fr : Int
  to : Int
  era : Int
  must : Bool
def Pt.cells (p : Pt) : List Value := [.int .i64 p.k, .int .i64 p.u, .int .i64 p.v, .int .u64 p.x, .int .i64 p.err, .bool p.is, .int .i64 p.n, .int .u64 p.w, .slice none 0 0, .bool p.any, .int .i64 p.fr, .int .i64 p.to, .int .i64 p.era, .bool p.must]
abbrev pbx (p : Pt) : Obj := .cells #[.int .i64 p.k, .int .i64 p.u, .int .i64 p.v, .int .u64 p.x, .int .i64 p.err, .bool p.is, .int .i64 p.n, .int .u64 p.w, .slice none 0 0, .bool p.any, .int .i64 p.fr, .int .i64 p.to, .int .i64 p.era, .bool p.must] 75
def flat : List Pt → List Value
  | [] => []
  | p :: l => p.cells ++ flat l
theorem flat_append : ∀ l k : List Pt, flat (l ++ k) = flat l ++ flat k
  | [], _ => rfl
  | p :: l, k => by rw [List.cons_append, flat, flat, flat_append l k, List.append_assoc]
theorem flat_length : ∀ l : List Pt, (flat l).length = l.length * 14
  | [] => rfl
  | p :: l => by rw [flat, List.length_append, flat_length l, List.length_cons]; show 14 + _ = _; omega
theorem flat_get : ∀ (ps : List Pt) {k : Nat} {p : Pt} {j : Nat} {v : Value}, ps[k]? = some p → p.cells[j]? = some v → (flat ps)[k * 14 + j]? = some v
  | [], k, p, j, v, h, _ => by simp at h
  | q :: ps, 0, p, j, v, h, hj => by
    obtain rfl : q = p := by simpa using h
    rw [flat, Nat.zero_mul, Nat.zero_add, List.getElem?_append_left (List.getElem?_eq_some_iff.1 hj).1]
    exact hj
  | q :: ps, k + 1, p, j, v, h, hj => by
    have h' : ps[k]? = some p := by simpa using h
    have hq : q.cells.length = 14 := rfl
    rw [flat, List.getElem?_append_right (by rw [hq]; omega), hq]
    have := flat_get ps h' hj
    rw [← this]
    congr 1
    omega
/-- A point's cells. -/
def PAt (w : World) (b o : Nat) (p : Pt) : Prop :=
  w.cell? ⟨b, o, none⟩ = some (.int .i64 p.k) ∧ w.cell? ⟨b, o + 1, none⟩ = some (.int .i64 p.u) ∧ w.cell? ⟨b, o + 2, none⟩ = some (.int .i64 p.v) ∧ w.cell? ⟨b, o + 3, none⟩ = some (.int .u64 p.x) ∧ w.cell? ⟨b, o + 4, none⟩ = some (.int .i64 p.err) ∧ w.cell? ⟨b, o + 5, none⟩ = some (.bool p.is) ∧ w.cell? ⟨b, o + 6, none⟩ = some (.int .i64 p.n) ∧ w.cell? ⟨b, o + 7, none⟩ = some (.int .u64 p.w) ∧ w.cell? ⟨b, o + 8, none⟩ = some (.slice none 0 0) ∧ w.cell? ⟨b, o + 9, none⟩ = some (.bool p.any) ∧ w.cell? ⟨b, o + 10, none⟩ = some (.int .i64 p.fr) ∧ w.cell? ⟨b, o + 11, none⟩ = some (.int .i64 p.to) ∧ w.cell? ⟨b, o + 12, none⟩ = some (.int .i64 p.era) ∧ w.cell? ⟨b, o + 13, none⟩ = some (.bool p.must)
theorem sl_pt {w : World} {B : Option Addr} {ps : List Pt} (h : Sl w B (flat ps)) {k : Nat} {p : Pt} (hk : ps[k]? = some p) : ∃ b o, B = some ⟨b, o, none⟩ ∧ PAt w b (o + k * 14) p := by
  have hl := (List.getElem?_eq_some_iff.1 hk).1
  obtain ⟨b, o, rfl, hc⟩ := h (by rw [flat_length]; omega)
  have t : ∀ j v, p.cells[j]? = some v → w.cell? ⟨b, o + k * 14 + j, none⟩ = some v := fun j v hj => by
    rw [Nat.add_assoc]; exact hc _ v (flat_get ps hk hj)
  exact ⟨b, o, rfl, t 0 _ rfl, t 1 _ rfl, t 2 _ rfl, t 3 _ rfl, t 4 _ rfl, t 5 _ rfl, t 6 _ rfl, t 7 _ rfl, t 8 _ rfl, t 9 _ rfl, t 10 _ rfl, t 11 _ rfl, t 12 _ rfl, t 13 _ rfl⟩
end Go.Proofs.YtpdfmfkoopdfgaaGreatDoor.Hs
end
section
namespace Go.Proofs.YtpdfmfkoopdfgaaGreatDoor.Hs
set_option maxRecDepth 100000
open Go.RowKit Aid

def beforeB (a b : Cl) : Bool := decide (a.era < b.era ∨ (a.era = b.era ∧ 0 ≤ a.to ∧ a.to < b.fr))
def fitsB (a b : Cl) : Bool := decide (a.fr < b.fr ∧ a.era ≤ b.era ∧ (a.era < b.era → a.to < b.fr) ∧ (a.era = b.era → a.me ≠ b.me ∨ (0 ≤ a.to ∧ a.to < b.fr)))
def mayB (a : Cl) : Bool := decide (11 ≤ a.k ∧ a.k ≤ 17 ∧ 0 ≤ a.me ∧ a.me < 64 ∧ 0 ≤ a.era ∧ 0 ≤ a.fr ∧ (a.to < 0 ∨ a.fr < a.to))
def idleB (a : Cl) : Bool := decide (0 ≤ a.to ∧ (a.err = 3 ∨ a.err = 4 ∨ a.err = 6 ∨ a.err = 9))
theorem idle_any (a : Cl) (w : World) : Calls Tryz.prog 57 #[a.val] w fun e w' => e = .returned (.bool (idleB a)) ∧ Below w.heap.size w w' := by
  have HA := Lib.hid ((Below.refl w.heap.size w).alloc (Nat.le_refl _) (.cells #[.int .i64 a.me, .int .i64 a.k, .int .i64 a.u, .int .i64 a.v, .int .u64 a.x, .int .i64 a.era, .int .i64 a.fr, .int .i64 a.to, .int .i64 a.err, .bool a.is, .int .i64 a.n, .int .u64 a.w, .slice a.A a.list.length a.cap] 43))
  unfold Cl.val
  by_cases h1 : a.err = 3
  · have fh1_0 : (a.err == 3) = true := by simpa using h1
    by_cases h2 : 0 ≤ a.to
    · have fh2_0 : decide (0 ≤ a.to) = true := by simpa using h2
      have hr : idleB a = true := decide_eq_true (by omega)
      rw [hr]
      clear hr h1 h2
      go_enter Tryz.func57, Tryz.ntmps57
      go_wp2
      go_ret
      exact ⟨rfl, HA.out⟩
    · have fh2_0 : decide (0 ≤ a.to) = false := by simpa using h2
      have hr : idleB a = false := decide_eq_false (by omega)
      rw [hr]
      clear hr h1 h2
      go_enter Tryz.func57, Tryz.ntmps57
      go_wp2
      go_ret
      exact ⟨rfl, HA.out⟩
  · have fh1_0 : (a.err == 3) = false := by simpa using h1
    by_cases h3 : a.err = 4
    · have fh3_0 : (a.err == 4) = true := by simpa using h3
      by_cases h4 : 0 ≤ a.to
      · have fh4_0 : decide (0 ≤ a.to) = true := by simpa using h4
        have hr : idleB a = true := decide_eq_true (by omega)
        rw [hr]
        clear hr h3 h4
        go_enter Tryz.func57, Tryz.ntmps57
        go_wp2
        go_ret
        exact ⟨rfl, HA.out⟩
      · have fh4_0 : decide (0 ≤ a.to) = false := by simpa using h4
        have hr : idleB a = false := decide_eq_false (by omega)
        rw [hr]
        clear hr h3 h4
        go_enter Tryz.func57, Tryz.ntmps57
        go_wp2
        go_ret
        exact ⟨rfl, HA.out⟩
    · have fh3_0 : (a.err == 4) = false := by simpa using h3
      by_cases h5 : a.err = 6
      · have fh5_0 : (a.err == 6) = true := by simpa using h5
        by_cases h6 : 0 ≤ a.to
        · have fh6_0 : decide (0 ≤ a.to) = true := by simpa using h6
          have hr : idleB a = true := decide_eq_true (by omega)
          rw [hr]
          clear hr h5 h6
          go_enter Tryz.func57, Tryz.ntmps57
          go_wp2
          go_ret
          exact ⟨rfl, HA.out⟩
        · have fh6_0 : decide (0 ≤ a.to) = false := by simpa using h6
          have hr : idleB a = false := decide_eq_false (by omega)
          rw [hr]
          clear hr h5 h6
          go_enter Tryz.func57, Tryz.ntmps57
          go_wp2
          go_ret
          exact ⟨rfl, HA.out⟩
      · have fh5_0 : (a.err == 6) = false := by simpa using h5
        by_cases h7 : a.err = 9
        · have fh7_0 : (a.err == 9) = true := by simpa using h7
          by_cases h8 : 0 ≤ a.to
          · have fh8_0 : decide (0 ≤ a.to) = true := by simpa using h8
            have hr : idleB a = true := decide_eq_true (by omega)
            rw [hr]
            clear hr h7 h8
            go_enter Tryz.func57, Tryz.ntmps57
            go_wp2
            go_ret
            exact ⟨rfl, HA.out⟩
          · have fh8_0 : decide (0 ≤ a.to) = false := by simpa using h8
            have hr : idleB a = false := decide_eq_false (by omega)
            rw [hr]
            clear hr h7 h8
            go_enter Tryz.func57, Tryz.ntmps57
            go_wp2
            go_ret
            exact ⟨rfl, HA.out⟩
        · have fh7_0 : (a.err == 9) = false := by simpa using h7
          have hr : idleB a = false := decide_eq_false (by omega)
          rw [hr]
          clear hr
          go_enter Tryz.func57, Tryz.ntmps57
          go_wp2
          go_ret
          exact ⟨rfl, HA.out⟩
def openB (a : Cl) : Bool := decide (a.to < 0 ∨ a.err = 7)
theorem open_any (a : Cl) (w : World) : Calls Tryz.prog 56 #[a.val] w fun e w' => e = .returned (.bool (openB a)) ∧ Below w.heap.size w w' := by
  have HA := Lib.hid ((Below.refl w.heap.size w).alloc (Nat.le_refl _) (.cells #[.int .i64 a.me, .int .i64 a.k, .int .i64 a.u, .int .i64 a.v, .int .u64 a.x, .int .i64 a.era, .int .i64 a.fr, .int .i64 a.to, .int .i64 a.err, .bool a.is, .int .i64 a.n, .int .u64 a.w, .slice a.A a.list.length a.cap] 43))
  unfold Cl.val
  by_cases h1 : a.to < 0
  · have fh1_0 : decide (a.to < 0) = true := by simpa using h1
    have hr : openB a = true := decide_eq_true (by omega)
    rw [hr]
    clear hr h1
    go_enter Tryz.func56, Tryz.ntmps56
    go_wp2
    go_ret
    exact ⟨rfl, HA.out⟩
  · have fh1_0 : decide (a.to < 0) = false := by simpa using h1
    by_cases h2 : a.err = 7
    · have fh2_0 : (a.err == 7) = true := by simpa using h2
      have hr : openB a = true := decide_eq_true (by omega)
      rw [hr]
      clear hr h1 h2
      go_enter Tryz.func56, Tryz.ntmps56
      go_wp2
      go_ret
      exact ⟨rfl, HA.out⟩
    · have fh2_0 : (a.err == 7) = false := by simpa using h2
      have hr : openB a = false := decide_eq_false (by omega)
      rw [hr]
      clear hr h1
      go_enter Tryz.func56, Tryz.ntmps56
      go_wp2
      go_ret
      exact ⟨rfl, HA.out⟩
def edgeB (k : Int) : Bool := decide (14 ≤ k ∧ k ≤ 16)
theorem edge_any (k : Int) (w : World) : Calls Tryz.prog 81 #[.int .i64 k] w fun e w' => e = .returned (.bool (edgeB k)) ∧ w = w' := by
  by_cases h1 : 14 ≤ k
  · have fh1_0 : decide (14 ≤ k) = true := by simpa using h1
    by_cases h2 : k ≤ 16
    · have fh2_0 : decide (k ≤ 16) = true := by simpa using h2
      have hr : edgeB k = true := decide_eq_true (by omega)
      rw [hr]
      clear hr h1 h2
      go_enter Tryz.func81, Tryz.ntmps81
      go_wp2
      go_ret
      exact ⟨rfl, rfl⟩
    · have fh2_0 : decide (k ≤ 16) = false := by simpa using h2
      have hr : edgeB k = false := decide_eq_false (by omega)
      rw [hr]
      clear hr h1 h2
      go_enter Tryz.func81, Tryz.ntmps81
      go_wp2
      go_ret
      exact ⟨rfl, rfl⟩
  · have fh1_0 : decide (14 ≤ k) = false := by simpa using h1
    have hr : edgeB k = false := decide_eq_false (by omega)
    rw [hr]
    clear hr h1
    go_enter Tryz.func81, Tryz.ntmps81
    go_wp2
    go_ret
    exact ⟨rfl, rfl⟩
def asksB (k : Int) : Bool := decide (k = 13 ∨ k = 16 ∨ k = 17)
theorem asks_any (k : Int) (w : World) : Calls Tryz.prog 86 #[.int .i64 k] w fun e w' => e = .returned (.bool (asksB k)) ∧ w = w' := by
  by_cases h1 : k = 13
  · have fh1_0 : (k == 13) = true := by simpa using h1
    have hr : asksB k = true := decide_eq_true (by omega)
    rw [hr]
    clear hr h1
    go_enter Tryz.func86, Tryz.ntmps86
    go_wp2
    go_ret
    exact ⟨rfl, rfl⟩
  · have fh1_0 : (k == 13) = false := by simpa using h1
    by_cases h2 : k = 16
    · have fh2_0 : (k == 16) = true := by simpa using h2
      have hr : asksB k = true := decide_eq_true (by omega)
      rw [hr]
      clear hr h2
      go_enter Tryz.func86, Tryz.ntmps86
      go_wp2
      go_ret
      exact ⟨rfl, rfl⟩
    · have fh2_0 : (k == 16) = false := by simpa using h2
      by_cases h3 : k = 17
      · have fh3_0 : (k == 17) = true := by simpa using h3
        have hr : asksB k = true := decide_eq_true (by omega)
        rw [hr]
        clear hr h3
        go_enter Tryz.func86, Tryz.ntmps86
        go_wp2
        go_ret
        exact ⟨rfl, rfl⟩
      · have fh3_0 : (k == 17) = false := by simpa using h3
        have hr : asksB k = false := decide_eq_false (by omega)
        rw [hr]
        clear hr
        go_enter Tryz.func86, Tryz.ntmps86
        go_wp2
        go_ret
        exact ⟨rfl, rfl⟩
end Go.Proofs.YtpdfmfkoopdfgaaGreatDoor.Hs
end
section
namespace Go.Proofs.YtpdfmfkoopdfgaaGreatDoor.Hs
set_option maxRecDepth 100000
open Go.RowKit Aid

def OkAt (l : List Cl) (j : Nat) : Prop := ∀ b, l[j]? = some b → mayB b = true ∧ ∀ k a, k < j → l[k]? = some a → fitsB a b = true
def RightP (l : List Cl) : Prop := ∀ j, OkAt l j
noncomputable def rightB (l : List Cl) : Bool := by classical exact decide (RightP l)
theorem rightB_t {l : List Cl} (h : RightP l) : rightB l = true := by unfold rightB; simpa using h
theorem rightB_f {l : List Cl} (h : ¬ RightP l) : rightB l = false := by unfold rightB; simpa using h
theorem right_of {l : List Cl} (h : rightB l = true) : RightP l := by unfold rightB at h; simpa using h
theorem not_may {l : List Cl} {j : Nat} {b : Cl} (hb : l[j]? = some b) (h : mayB b = false) : rightB l = false := rightB_f fun r => by have := (r j b hb).1; rw [h] at this; cases this
theorem not_fits {l : List Cl} {j k : Nat} {a b : Cl} (hb : l[j]? = some b) (hk : k < j) (ha : l[k]? = some a) (h : fitsB a b = false) : rightB l = false := rightB_f fun r => by have := (r j b hb).2 k a hk ha; rw [h] at this; cases this
theorem ok_past {l : List Cl} {i : Nat} (h : ∀ j, j < i → OkAt l j) (hi : l.length ≤ i) : rightB l = true := rightB_t fun j => by
  rcases Nat.lt_or_ge j i with hj | hj
  · exact h j hj
  · intro a ha
    have := (List.getElem?_eq_some_iff.1 ha).1
    omega
theorem ok_step {l : List Cl} {i : Nat} (h : ∀ j, j < i → OkAt l j) {b : Cl} (hb : l[i]? = some b) (h1 : mayB b = true) (h2 : ∀ k a, k < i → l[k]? = some a → fitsB a b = true) : ∀ j, j < i + 1 → OkAt l j := fun j hj => by
  rcases Nat.lt_or_ge j i with q | q
  · exact h j q
  · obtain rfl : j = i := by omega
    intro b' hb'
    rw [hb] at hb'; cases hb'
    exact ⟨h1, h2⟩
theorem fits_step {l : List Cl} {k : Nat} {b a : Cl} (h : ∀ j a, j < k → l[j]? = some a → fitsB a b = true) (ha : l[k]? = some a) (hf : fitsB a b = true) : ∀ j a, j < k + 1 → l[j]? = some a → fitsB a b = true := fun j a' hj ha' => by
  rcases Nat.lt_or_ge j k with q | q
  · exact h j a' q ha'
  · obtain rfl : j = k := by omega
    rw [ha] at ha'; cases ha'; exact hf
set_option maxHeartbeats 32000000 in
set_option maxRecDepth 100000 in
theorem refRight_any (A : Option Addr) (c n : Nat) (l : List Cl) (w : World) (hn : n = l.length) (hl : Cls w A l) (h40 : l.length ≤ 9223372036854775807) :
    Calls Tryz.prog 16 #[.slice A n c] w fun e w' => e = .returned (.bool (rightB l)) ∧ Below w.heap.size w w' := by
  subst hn
  have HL := Lib.hid hl
  clear hl
  go_enter Tryz.func16, Tryz.ntmps16
  go_wp2
  go_loopw [3] (fun v wr => ∃ i : Nat, i ≤ l.length ∧ v = .int .i64 i ∧ (∀ j, j < i → OkAt l j) ∧ Below w.heap.size w wr) (fun v _ => l.length - (intOf v).toNat)
  case atStart => exact ⟨0, Nat.zero_le _, rfl, fun j hj => by omega, Below.refl _ _⟩
  case round =>
    obtain ⟨i, hi, rfl, hall, hb⟩ := hrel
    obtain ⟨w0, hw0⟩ : ∃ w0, w0 = wr := ⟨_, rfl⟩
    subst hw0
    have HA := Lib.hid hall
    have HB := Lib.hid hb
    clear hall hb
    by_cases hlt : i < l.length
    · obtain ⟨⟨bme, bk, bu, bv, bx, bera, bfr, bto, berr, bis, bn, bw, blist, bA, bcap⟩, hbl⟩ : ∃ b, l[i]? = some b := ⟨_, List.getElem?_eq_getElem hlt⟩
      obtain ⟨b, off, hA, hat⟩ := (HL.out.below HB.out (Nat.le_refl _)).get hbl
      subst hA
      obtain ⟨c0, c1, c2, c3, c4, c5, c6, c7, c8, c9, c10, c11, c12⟩ := hat
      simp only at c0 c1 c2 c3 c4 c5 c6 c7 c8 c9 c10 c11 c12
      have HBL := Lib.hid hbl
      clear hbl
      have QB := Lib.hid ((Below.refl w0.heap.size w0).alloc (Nat.le_refl _) (.cells #[.int .i64 bme, .int .i64 bk, .int .i64 bu, .int .i64 bv, .int .u64 bx, .int .i64 bera, .int .i64 bfr, .int .i64 bto, .int .i64 berr, .bool bis, .int .i64 bn, .int .u64 bw, .slice bA blist.length bcap] 43))
      have HB1 := Lib.hid (HB.out.trans (QB.out.mono HB.out.size))
      have i0 : (0 : Int) ≤ (i : Int) := by omega
      have i1 : (i : Int) < (l.length : Int) := by omega
      have n3 : IntKind.i64.wrap ((i : Int) + 1) = (i : Int) + 1 := by rw [IntKind.wrap_i64] <;> omega
      by_cases h1 : bk < 11
      · have fh1 : decide (bk < 11) = true := decide_eq_true h1
        have hx := Lib.hid (not_may HBL.out (show mayB ⟨bme, bk, bu, bv, bx, bera, bfr, bto, berr, bis, bn, bw, blist, bA, bcap⟩ = false from decide_eq_false (by simp only; omega)))
        clear h1
        go_wp2
        go_ret
        exact ⟨by rw [hx.out]; rfl, HB1.out⟩
      · have fh1 : decide (bk < 11) = false := decide_eq_false h1
        by_cases h2 : 17 < bk
        · have fh2 : decide (17 < bk) = true := decide_eq_true h2
          have hx := Lib.hid (not_may HBL.out (show mayB ⟨bme, bk, bu, bv, bx, bera, bfr, bto, berr, bis, bn, bw, blist, bA, bcap⟩ = false from decide_eq_false (by simp only; omega)))
          clear h1 h2
          go_wp2
          go_ret
          exact ⟨by rw [hx.out]; rfl, HB1.out⟩
        · have fh2 : decide (17 < bk) = false := decide_eq_false h2
          by_cases h3 : bme < 0
          · have fh3 : decide (bme < 0) = true := decide_eq_true h3
            have hx := Lib.hid (not_may HBL.out (show mayB ⟨bme, bk, bu, bv, bx, bera, bfr, bto, berr, bis, bn, bw, blist, bA, bcap⟩ = false from decide_eq_false (by simp only; omega)))
            clear h1 h2 h3
            go_wp2
            go_ret
            exact ⟨by rw [hx.out]; rfl, HB1.out⟩
          · have fh3 : decide (bme < 0) = false := decide_eq_false h3
            by_cases h4 : 63 < bme
            · have fh4 : decide (63 < bme) = true := decide_eq_true h4
              have hx := Lib.hid (not_may HBL.out (show mayB ⟨bme, bk, bu, bv, bx, bera, bfr, bto, berr, bis, bn, bw, blist, bA, bcap⟩ = false from decide_eq_false (by simp only; omega)))
              clear h1 h2 h3 h4
              go_wp2
              go_ret
              exact ⟨by rw [hx.out]; rfl, HB1.out⟩
            · have fh4 : decide (63 < bme) = false := decide_eq_false h4
              by_cases h5 : bera < 0
              · have fh5 : decide (bera < 0) = true := decide_eq_true h5
                have hx := Lib.hid (not_may HBL.out (show mayB ⟨bme, bk, bu, bv, bx, bera, bfr, bto, berr, bis, bn, bw, blist, bA, bcap⟩ = false from decide_eq_false (by simp only; omega)))
                clear h1 h2 h3 h4 h5
                go_wp2
                go_ret
                exact ⟨by rw [hx.out]; rfl, HB1.out⟩
              · have fh5 : decide (bera < 0) = false := decide_eq_false h5
                by_cases h6 : bfr < 0
                · have fh6 : decide (bfr < 0) = true := decide_eq_true h6
                  have hx := Lib.hid (not_may HBL.out (show mayB ⟨bme, bk, bu, bv, bx, bera, bfr, bto, berr, bis, bn, bw, blist, bA, bcap⟩ = false from decide_eq_false (by simp only; omega)))
                  clear h1 h2 h3 h4 h5 h6
                  go_wp2
                  go_ret
                  exact ⟨by rw [hx.out]; rfl, HB1.out⟩
                · have fh6 : decide (bfr < 0) = false := decide_eq_false h6
                  by_cases h7 : 0 ≤ bto
                  · have fh7 : decide (0 ≤ bto) = true := decide_eq_true h7
                    by_cases h8 : bto ≤ bfr
                    · have fh8 : decide (bto ≤ bfr) = true := decide_eq_true h8
                      have hx := Lib.hid (not_may HBL.out (show mayB ⟨bme, bk, bu, bv, bx, bera, bfr, bto, berr, bis, bn, bw, blist, bA, bcap⟩ = false from decide_eq_false (by simp only; omega)))
                      clear h1 h2 h3 h4 h5 h6 h7 h8
                      go_wp2
                      go_ret
                      exact ⟨by rw [hx.out]; rfl, HB1.out⟩
                    · have fh8 : decide (bto ≤ bfr) = false := decide_eq_false h8
                      have hm := Lib.hid (show mayB ⟨bme, bk, bu, bv, bx, bera, bfr, bto, berr, bis, bn, bw, blist, bA, bcap⟩ = true from decide_eq_true (by simp only; omega))
                      clear h1 h2 h3 h4 h5 h6 h7 h8
                      go_wp2
                      go_loopw [5] (fun v wr => ∃ k : Nat, k ≤ i ∧ v = .int .i64 k ∧ (∀ j a, j < k → l[j]? = some a → fitsB a ⟨bme, bk, bu, bv, bx, bera, bfr, bto, berr, bis, bn, bw, blist, bA, bcap⟩ = true) ∧ Below (w0.alloc (.cells #[.int .i64 bme, .int .i64 bk, .int .i64 bu, .int .i64 bv, .int .u64 bx, .int .i64 bera, .int .i64 bfr, .int .i64 bto, .int .i64 berr, .bool bis, .int .i64 bn, .int .u64 bw, .slice bA blist.length bcap] 43)).heap.size (w0.alloc (.cells #[.int .i64 bme, .int .i64 bk, .int .i64 bu, .int .i64 bv, .int .u64 bx, .int .i64 bera, .int .i64 bfr, .int .i64 bto, .int .i64 berr, .bool bis, .int .i64 bn, .int .u64 bw, .slice bA blist.length bcap] 43)) wr) (fun v _ => i - (intOf v).toNat)
                      case atStart => exact ⟨0, Nat.zero_le _, rfl, fun j a hj => by omega, Below.refl _ _⟩
                      case round =>
                        obtain ⟨k, hk, rfl, hfs, hb2⟩ := hrel
                        have HK := Lib.hid hfs
                        have HC := Lib.hid hb2
                        have HW := Lib.hid (HB1.out.trans (hb2.mono HB1.out.size))
                        clear hfs hb2
                        by_cases hlk : k < i
                        · obtain ⟨⟨ame, ak, au, av, ax, aera, afr, ato, aerr, ais, an, aw, alist, aA, acap⟩, hal⟩ : ∃ a, l[k]? = some a := ⟨_, List.getElem?_eq_getElem (by omega)⟩
                          obtain ⟨_, _, hA2, hat2⟩ := (HL.out.below HW.out (Nat.le_refl _)).get hal
                          cases hA2
                          obtain ⟨g0, g1, g2, g3, g4, g5, g6, g7, g8, g9, g10, g11, g12⟩ := hat2
                          simp only at g0 g1 g2 g3 g4 g5 g6 g7 g8 g9 g10 g11 g12
                          have HAL := Lib.hid hal
                          clear hal
                          have HD1 := Lib.hid (HC.out.alloc HC.out.size (.cells #[.int .i64 ame, .int .i64 ak, .int .i64 au, .int .i64 av, .int .u64 ax, .int .i64 aera, .int .i64 afr, .int .i64 ato, .int .i64 aerr, .bool ais, .int .i64 an, .int .u64 aw, .slice aA alist.length acap] 43))
                          have HD2 := Lib.hid (HB1.out.trans (HD1.out.mono HB1.out.size))
                          obtain ⟨e0, _, _, _, _, e5, e6, _, _, _, _, _, _⟩ := (at_box w0 ⟨bme, bk, bu, bv, bx, bera, bfr, bto, berr, bis, bn, bw, blist, bA, bcap⟩).below HD1.out (Nat.le_refl _)
                          simp only at e0 e5 e6
                          have k0 : (0 : Int) ≤ (k : Int) := by omega
                          have k1 : (k : Int) < (l.length : Int) := by omega
                          have k2 : decide ((k : Int) < (i : Int)) = true := by simp; omega
                          have n4 : IntKind.i64.wrap ((k : Int) + 1) = (k : Int) + 1 := by rw [IntKind.wrap_i64] <;> omega
                          by_cases h9 : bfr ≤ afr
                          · have fh9 : decide (bfr ≤ afr) = true := decide_eq_true h9
                            have hx := Lib.hid (not_fits HBL.out hlk HAL.out (show fitsB ⟨ame, ak, au, av, ax, aera, afr, ato, aerr, ais, an, aw, alist, aA, acap⟩ ⟨bme, bk, bu, bv, bx, bera, bfr, bto, berr, bis, bn, bw, blist, bA, bcap⟩ = false from decide_eq_false (by first | (simp only; omega) | (simp; omega))))
                            clear h9
                            go_wp2
                            go_ret
                            exact ⟨by rw [hx.out]; rfl, HD2.out⟩
                          · have fh9 : decide (bfr ≤ afr) = false := decide_eq_false h9
                            by_cases h10 : bera < aera
                            · have fh10 : decide (bera < aera) = true := decide_eq_true h10
                              have hx := Lib.hid (not_fits HBL.out hlk HAL.out (show fitsB ⟨ame, ak, au, av, ax, aera, afr, ato, aerr, ais, an, aw, alist, aA, acap⟩ ⟨bme, bk, bu, bv, bx, bera, bfr, bto, berr, bis, bn, bw, blist, bA, bcap⟩ = false from decide_eq_false (by first | (simp only; omega) | (simp; omega))))
                              clear h9 h10
                              go_wp2
                              go_ret
                              exact ⟨by rw [hx.out]; rfl, HD2.out⟩
                            · have fh10 : decide (bera < aera) = false := decide_eq_false h10
                              by_cases h11 : aera < bera
                              · have fh11 : decide (aera < bera) = true := decide_eq_true h11
                                by_cases h12 : bfr ≤ ato
                                · have fh12 : decide (bfr ≤ ato) = true := decide_eq_true h12
                                  have hx := Lib.hid (not_fits HBL.out hlk HAL.out (show fitsB ⟨ame, ak, au, av, ax, aera, afr, ato, aerr, ais, an, aw, alist, aA, acap⟩ ⟨bme, bk, bu, bv, bx, bera, bfr, bto, berr, bis, bn, bw, blist, bA, bcap⟩ = false from decide_eq_false (by first | (simp only; omega) | (simp; omega))))
                                  clear h9 h10 h11 h12
                                  go_wp2
                                  go_ret
                                  exact ⟨by rw [hx.out]; rfl, HD2.out⟩
                                · have fh12 : decide (bfr ≤ ato) = false := decide_eq_false h12
                                  have fne : (aera == bera) = false := by simp; omega
                                  have hf := Lib.hid (show fitsB ⟨ame, ak, au, av, ax, aera, afr, ato, aerr, ais, an, aw, alist, aA, acap⟩ ⟨bme, bk, bu, bv, bx, bera, bfr, bto, berr, bis, bn, bw, blist, bA, bcap⟩ = true from decide_eq_true (by simp only; omega))
                                  clear h9 h10 h11 h12
                                  go_wp2
                                  go_roundw
                                  case rel => exact ⟨k + 1, by omega, by go_num, fits_step HK.out HAL.out hf.out, HD1.out⟩
                                  case measure => simp [intOf]; omega
                              · have fh11 : decide (aera < bera) = false := decide_eq_false h11
                                obtain rfl : aera = bera := by omega
                                by_cases h13 : ame = bme
                                · subst h13
                                  by_cases h14 : ato < 0
                                  · have fh14 : decide (ato < 0) = true := decide_eq_true h14
                                    have hx := Lib.hid (not_fits HBL.out hlk HAL.out (show fitsB ⟨ame, ak, au, av, ax, aera, afr, ato, aerr, ais, an, aw, alist, aA, acap⟩ ⟨ame, bk, bu, bv, bx, aera, bfr, bto, berr, bis, bn, bw, blist, bA, bcap⟩ = false from decide_eq_false (by first | (simp only; omega) | (simp; omega))))
                                    clear h9 h10 h11 h14
                                    go_wp2
                                    go_ret
                                    exact ⟨by rw [hx.out]; rfl, HD2.out⟩
                                  · have fh14 : decide (ato < 0) = false := decide_eq_false h14
                                    by_cases h15 : bfr ≤ ato
                                    · have fh15 : decide (bfr ≤ ato) = true := decide_eq_true h15
                                      have hx := Lib.hid (not_fits HBL.out hlk HAL.out (show fitsB ⟨ame, ak, au, av, ax, aera, afr, ato, aerr, ais, an, aw, alist, aA, acap⟩ ⟨ame, bk, bu, bv, bx, aera, bfr, bto, berr, bis, bn, bw, blist, bA, bcap⟩ = false from decide_eq_false (by first | (simp only; omega) | (simp; omega))))
                                      clear h9 h10 h11 h14 h15
                                      go_wp2
                                      go_ret
                                      exact ⟨by rw [hx.out]; rfl, HD2.out⟩
                                    · have fh15 : decide (bfr ≤ ato) = false := decide_eq_false h15
                                      have hf := Lib.hid (show fitsB ⟨ame, ak, au, av, ax, aera, afr, ato, aerr, ais, an, aw, alist, aA, acap⟩ ⟨ame, bk, bu, bv, bx, aera, bfr, bto, berr, bis, bn, bw, blist, bA, bcap⟩ = true from decide_eq_true (by simp only; omega))
                                      clear h9 h10 h11 h14 h15
                                      go_wp2
                                      go_roundw
                                      case rel => exact ⟨k + 1, by omega, by go_num, fits_step HK.out HAL.out hf.out, HD1.out⟩
                                      case measure => simp [intOf]; omega
                                · have fh13 : (ame == bme) = false := by simpa using h13
                                  have hf := Lib.hid (show fitsB ⟨ame, ak, au, av, ax, aera, afr, ato, aerr, ais, an, aw, alist, aA, acap⟩ ⟨bme, bk, bu, bv, bx, aera, bfr, bto, berr, bis, bn, bw, blist, bA, bcap⟩ = true from decide_eq_true (by simp only; omega))
                                  clear h9 h10 h11 h13
                                  go_wp2
                                  go_roundw
                                  case rel => exact ⟨k + 1, by omega, by go_num, fits_step HK.out HAL.out hf.out, HD1.out⟩
                                  case measure => simp [intOf]; omega
                        · obtain rfl : k = i := by omega
                          have hst := Lib.hid (ok_step HA.out HBL.out hm.out HK.out)
                          have k2 : decide ((k : Int) < (k : Int)) = false := by simp
                          go_wp2
                          go_roundw
                          case rel => exact ⟨k + 1, by omega, by go_num, hst.out, HW.out⟩
                          case measure => simp [intOf]; omega
                  · have fh7 : decide (0 ≤ bto) = false := decide_eq_false h7
                    have hm := Lib.hid (show mayB ⟨bme, bk, bu, bv, bx, bera, bfr, bto, berr, bis, bn, bw, blist, bA, bcap⟩ = true from decide_eq_true (by simp only; omega))
                    clear h1 h2 h3 h4 h5 h6 h7
                    go_wp2
                    go_loopw [5] (fun v wr => ∃ k : Nat, k ≤ i ∧ v = .int .i64 k ∧ (∀ j a, j < k → l[j]? = some a → fitsB a ⟨bme, bk, bu, bv, bx, bera, bfr, bto, berr, bis, bn, bw, blist, bA, bcap⟩ = true) ∧ Below (w0.alloc (.cells #[.int .i64 bme, .int .i64 bk, .int .i64 bu, .int .i64 bv, .int .u64 bx, .int .i64 bera, .int .i64 bfr, .int .i64 bto, .int .i64 berr, .bool bis, .int .i64 bn, .int .u64 bw, .slice bA blist.length bcap] 43)).heap.size (w0.alloc (.cells #[.int .i64 bme, .int .i64 bk, .int .i64 bu, .int .i64 bv, .int .u64 bx, .int .i64 bera, .int .i64 bfr, .int .i64 bto, .int .i64 berr, .bool bis, .int .i64 bn, .int .u64 bw, .slice bA blist.length bcap] 43)) wr) (fun v _ => i - (intOf v).toNat)
                    case atStart => exact ⟨0, Nat.zero_le _, rfl, fun j a hj => by omega, Below.refl _ _⟩
                    case round =>
                      obtain ⟨k, hk, rfl, hfs, hb2⟩ := hrel
                      have HK := Lib.hid hfs
                      have HC := Lib.hid hb2
                      have HW := Lib.hid (HB1.out.trans (hb2.mono HB1.out.size))
                      clear hfs hb2
                      by_cases hlk : k < i
                      · obtain ⟨⟨ame, ak, au, av, ax, aera, afr, ato, aerr, ais, an, aw, alist, aA, acap⟩, hal⟩ : ∃ a, l[k]? = some a := ⟨_, List.getElem?_eq_getElem (by omega)⟩
                        obtain ⟨_, _, hA2, hat2⟩ := (HL.out.below HW.out (Nat.le_refl _)).get hal
                        cases hA2
                        obtain ⟨g0, g1, g2, g3, g4, g5, g6, g7, g8, g9, g10, g11, g12⟩ := hat2
                        simp only at g0 g1 g2 g3 g4 g5 g6 g7 g8 g9 g10 g11 g12
                        have HAL := Lib.hid hal
                        clear hal
                        have HD1 := Lib.hid (HC.out.alloc HC.out.size (.cells #[.int .i64 ame, .int .i64 ak, .int .i64 au, .int .i64 av, .int .u64 ax, .int .i64 aera, .int .i64 afr, .int .i64 ato, .int .i64 aerr, .bool ais, .int .i64 an, .int .u64 aw, .slice aA alist.length acap] 43))
                        have HD2 := Lib.hid (HB1.out.trans (HD1.out.mono HB1.out.size))
                        obtain ⟨e0, _, _, _, _, e5, e6, _, _, _, _, _, _⟩ := (at_box w0 ⟨bme, bk, bu, bv, bx, bera, bfr, bto, berr, bis, bn, bw, blist, bA, bcap⟩).below HD1.out (Nat.le_refl _)
                        simp only at e0 e5 e6
                        have k0 : (0 : Int) ≤ (k : Int) := by omega
                        have k1 : (k : Int) < (l.length : Int) := by omega
                        have k2 : decide ((k : Int) < (i : Int)) = true := by simp; omega
                        have n4 : IntKind.i64.wrap ((k : Int) + 1) = (k : Int) + 1 := by rw [IntKind.wrap_i64] <;> omega
                        by_cases h16 : bfr ≤ afr
                        · have fh16 : decide (bfr ≤ afr) = true := decide_eq_true h16
                          have hx := Lib.hid (not_fits HBL.out hlk HAL.out (show fitsB ⟨ame, ak, au, av, ax, aera, afr, ato, aerr, ais, an, aw, alist, aA, acap⟩ ⟨bme, bk, bu, bv, bx, bera, bfr, bto, berr, bis, bn, bw, blist, bA, bcap⟩ = false from decide_eq_false (by first | (simp only; omega) | (simp; omega))))
                          clear h16
                          go_wp2
                          go_ret
                          exact ⟨by rw [hx.out]; rfl, HD2.out⟩
                        · have fh16 : decide (bfr ≤ afr) = false := decide_eq_false h16
                          by_cases h17 : bera < aera
                          · have fh17 : decide (bera < aera) = true := decide_eq_true h17
                            have hx := Lib.hid (not_fits HBL.out hlk HAL.out (show fitsB ⟨ame, ak, au, av, ax, aera, afr, ato, aerr, ais, an, aw, alist, aA, acap⟩ ⟨bme, bk, bu, bv, bx, bera, bfr, bto, berr, bis, bn, bw, blist, bA, bcap⟩ = false from decide_eq_false (by first | (simp only; omega) | (simp; omega))))
                            clear h16 h17
                            go_wp2
                            go_ret
                            exact ⟨by rw [hx.out]; rfl, HD2.out⟩
                          · have fh17 : decide (bera < aera) = false := decide_eq_false h17
                            by_cases h18 : aera < bera
                            · have fh18 : decide (aera < bera) = true := decide_eq_true h18
                              by_cases h19 : bfr ≤ ato
                              · have fh19 : decide (bfr ≤ ato) = true := decide_eq_true h19
                                have hx := Lib.hid (not_fits HBL.out hlk HAL.out (show fitsB ⟨ame, ak, au, av, ax, aera, afr, ato, aerr, ais, an, aw, alist, aA, acap⟩ ⟨bme, bk, bu, bv, bx, bera, bfr, bto, berr, bis, bn, bw, blist, bA, bcap⟩ = false from decide_eq_false (by first | (simp only; omega) | (simp; omega))))
                                clear h16 h17 h18 h19
                                go_wp2
                                go_ret
                                exact ⟨by rw [hx.out]; rfl, HD2.out⟩
                              · have fh19 : decide (bfr ≤ ato) = false := decide_eq_false h19
                                have fne : (aera == bera) = false := by simp; omega
                                have hf := Lib.hid (show fitsB ⟨ame, ak, au, av, ax, aera, afr, ato, aerr, ais, an, aw, alist, aA, acap⟩ ⟨bme, bk, bu, bv, bx, bera, bfr, bto, berr, bis, bn, bw, blist, bA, bcap⟩ = true from decide_eq_true (by simp only; omega))
                                clear h16 h17 h18 h19
                                go_wp2
                                go_roundw
                                case rel => exact ⟨k + 1, by omega, by go_num, fits_step HK.out HAL.out hf.out, HD1.out⟩
                                case measure => simp [intOf]; omega
                            · have fh18 : decide (aera < bera) = false := decide_eq_false h18
                              obtain rfl : aera = bera := by omega
                              by_cases h20 : ame = bme
                              · subst h20
                                by_cases h21 : ato < 0
                                · have fh21 : decide (ato < 0) = true := decide_eq_true h21
                                  have hx := Lib.hid (not_fits HBL.out hlk HAL.out (show fitsB ⟨ame, ak, au, av, ax, aera, afr, ato, aerr, ais, an, aw, alist, aA, acap⟩ ⟨ame, bk, bu, bv, bx, aera, bfr, bto, berr, bis, bn, bw, blist, bA, bcap⟩ = false from decide_eq_false (by first | (simp only; omega) | (simp; omega))))
                                  clear h16 h17 h18 h21
                                  go_wp2
                                  go_ret
                                  exact ⟨by rw [hx.out]; rfl, HD2.out⟩
                                · have fh21 : decide (ato < 0) = false := decide_eq_false h21
                                  by_cases h22 : bfr ≤ ato
                                  · have fh22 : decide (bfr ≤ ato) = true := decide_eq_true h22
                                    have hx := Lib.hid (not_fits HBL.out hlk HAL.out (show fitsB ⟨ame, ak, au, av, ax, aera, afr, ato, aerr, ais, an, aw, alist, aA, acap⟩ ⟨ame, bk, bu, bv, bx, aera, bfr, bto, berr, bis, bn, bw, blist, bA, bcap⟩ = false from decide_eq_false (by first | (simp only; omega) | (simp; omega))))
                                    clear h16 h17 h18 h21 h22
                                    go_wp2
                                    go_ret
                                    exact ⟨by rw [hx.out]; rfl, HD2.out⟩
                                  · have fh22 : decide (bfr ≤ ato) = false := decide_eq_false h22
                                    have hf := Lib.hid (show fitsB ⟨ame, ak, au, av, ax, aera, afr, ato, aerr, ais, an, aw, alist, aA, acap⟩ ⟨ame, bk, bu, bv, bx, aera, bfr, bto, berr, bis, bn, bw, blist, bA, bcap⟩ = true from decide_eq_true (by simp only; omega))
                                    clear h16 h17 h18 h21 h22
                                    go_wp2
                                    go_roundw
                                    case rel => exact ⟨k + 1, by omega, by go_num, fits_step HK.out HAL.out hf.out, HD1.out⟩
                                    case measure => simp [intOf]; omega
                              · have fh20 : (ame == bme) = false := by simpa using h20
                                have hf := Lib.hid (show fitsB ⟨ame, ak, au, av, ax, aera, afr, ato, aerr, ais, an, aw, alist, aA, acap⟩ ⟨bme, bk, bu, bv, bx, aera, bfr, bto, berr, bis, bn, bw, blist, bA, bcap⟩ = true from decide_eq_true (by simp only; omega))
                                clear h16 h17 h18 h20
                                go_wp2
                                go_roundw
                                case rel => exact ⟨k + 1, by omega, by go_num, fits_step HK.out HAL.out hf.out, HD1.out⟩
                                case measure => simp [intOf]; omega
                      · obtain rfl : k = i := by omega
                        have hst := Lib.hid (ok_step HA.out HBL.out hm.out HK.out)
                        have k2 : decide ((k : Int) < (k : Int)) = false := by simp
                        go_wp2
                        go_roundw
                        case rel => exact ⟨k + 1, by omega, by go_num, hst.out, HW.out⟩
                        case measure => simp [intOf]; omega
    · have hx := Lib.hid (ok_past HA.out (by omega))
      go_wp2
      go_ret
      exact ⟨by rw [hx.out]; rfl, HB.out⟩
end Go.Proofs.YtpdfmfkoopdfgaaGreatDoor.Hs
end
section
namespace Go.Proofs.YtpdfmfkoopdfgaaGreatDoor.Hs
set_option maxRecDepth 100000
open Go.RowKit

theorem vertex_yes (u : Int) (w : World) (h0 : 0 ≤ u) (h1 : u < 1073741824) : Calls Tryz.prog 109 #[.int .i64 u] w fun e w' => e = .returned (.bool true) ∧ w = w' := by
  go_enter Tryz.func109, Tryz.ntmps109
  go_wp2
  go_ret
  exact ⟨rfl, rfl⟩
theorem vertex_no (u : Int) (w : World) (h : u < 0 ∨ 1073741824 ≤ u) : Calls Tryz.prog 109 #[.int .i64 u] w fun e w' => e = .returned (.bool false) ∧ w = w' := by
  rcases h with h | h
  · go_enter Tryz.func109, Tryz.ntmps109
    go_wp2
    go_ret
    exact ⟨rfl, rfl⟩
  · have hd : decide (u < 1073741824) = false := by simp; omega
    have h0 : 0 ≤ u := by omega
    go_enter Tryz.func109, Tryz.ntmps109
    go_wp2
    go_ret
    exact ⟨rfl, rfl⟩
/-- wealdref01.Is. -/
theorem is_yes (u : Int) (w : World) (h0 : 0 ≤ u) (h1 : u < 1073741824) : Calls Tryz.prog 18 #[.int .i64 u] w fun e w' => e = .returned (.bool true) ∧ w = w' := by
  have h2 : u ≤ 1073741823 := by omega
  go_enter Tryz.func18, Tryz.ntmps18
  go_wp2
  go_ret
  exact ⟨rfl, rfl⟩
theorem is_no (u : Int) (w : World) (h : u < 0 ∨ 1073741824 ≤ u) : Calls Tryz.prog 18 #[.int .i64 u] w fun e w' => e = .returned (.bool false) ∧ w = w' := by
  rcases h with h | h
  · go_enter Tryz.func18, Tryz.ntmps18
    go_wp2
    go_ret
    exact ⟨rfl, rfl⟩
  · have hd : decide (u ≤ 1073741823) = false := by simp; omega
    have h0 : 0 ≤ u := by omega
    go_enter Tryz.func18, Tryz.ntmps18
    go_wp2
    go_ret
    exact ⟨rfl, rfl⟩
/-- key.Vertex. -/
theorem kv_yes (u : Int) (w : World) (h0 : 0 ≤ u) (h1 : u < 1073741824) : Calls Tryz.prog 87 #[.int .i64 u] w fun e w' => e = .returned (.tuple #[.int .u64 (u * 2147483648), .int .i64 0]) ∧ w = w' := by
  go_enter Tryz.func87, Tryz.ntmps87
  go_wp2_with (go_at_call 109; refine (vertex_yes _ _ h0 h1).mono ?_; rintro e w' ⟨rfl, rfl⟩)
  go_ret2
  exact ⟨rfl, rfl⟩
theorem kv_no (u : Int) (w : World) (h : u < 0 ∨ 1073741824 ≤ u) : Calls Tryz.prog 87 #[.int .i64 u] w fun e w' => e = .returned (.tuple #[.int .u64 0, .int .i64 4]) ∧ w = w' := by
  have H := Lib.hid h
  clear h
  go_enter Tryz.func87, Tryz.ntmps87
  go_wp2_with (go_at_call 109; refine (vertex_no _ _ H.out).mono ?_; rintro e w' ⟨rfl, rfl⟩)
  go_ret2
  exact ⟨rfl, rfl⟩
/-- May it be a vertex? -/
def isV (u : Int) : Bool := decide (0 ≤ u ∧ u < 1073741824)
theorem isV_t {u : Int} (h : isV u = true) : 0 ≤ u ∧ u < 1073741824 := of_decide_eq_true h
theorem isV_f {u : Int} (h : isV u = false) : u < 0 ∨ 1073741824 ≤ u := by have := of_decide_eq_false h; omega
def errV (b : Bool) : Int := if b then 0 else 4
theorem is_any (u : Int) (w : World) : Calls Tryz.prog 18 #[.int .i64 u] w fun e w' => e = .returned (.bool (isV u)) ∧ w = w' := by
  cases h : isV u
  · exact is_no u w (isV_f h)
  · exact is_yes u w (isV_t h).1 (isV_t h).2
theorem vertex_any (u : Int) (w : World) : Calls Tryz.prog 87 #[.int .i64 u] w fun e w' => (∃ k, e = .returned (.tuple #[.int .u64 k, .int .i64 (errV (isV u))])) ∧ w = w' := by
  cases h : isV u
  · exact (kv_no u w (isV_f h)).mono fun e w' hh => ⟨⟨_, hh.1⟩, hh.2⟩
  · exact (kv_yes u w (isV_t h).1 (isV_t h).2).mono fun e w' hh => ⟨⟨_, hh.1⟩, hh.2⟩
theorem errT : errV true = 0 := by unfold errV; simp
theorem errF : errV false = 4 := by unfold errV; simp
attribute [irreducible] isV errV
end Go.Proofs.YtpdfmfkoopdfgaaGreatDoor.Hs
end
