/- wealdref19.Same only reads: nothing but draws. -/
import Derived.Test.YtmlcghbhkpbaeaaUse
namespace Go.Proofs.Ytmlcghbhkpbaeaa
open Go.RowKit Aid

/-- A world after some draws. -/
def Dr (w w' : World) : Prop := ∃ q, w' = w.drewN q
theorem Dr.refl (w : World) : Dr w w := ⟨0, rfl⟩
theorem drewN_more (w : World) (a : Nat) : ∀ b, (w.drewN a).drewN b = w.drewN (a + b)
  | 0 => rfl
  | b + 1 => congrArg World.drew (drewN_more w a b)
theorem Dr.more {w w' : World} (h : Dr w w') (n : Nat) : Dr w (w'.drewN n) := by obtain ⟨q, rfl⟩ := h; exact ⟨q + n, drewN_more w q n⟩
theorem Dr.below {w w' : World} (h : Dr w w') : Below w.heap.size w w' := by obtain ⟨q, rfl⟩ := h; exact below_drewN (Below.refl _ _) q
set_option maxHeartbeats 2000000 in
theorem refSame_quiet (A B : Option Addr) (c d n m : Nat) (l k : List Arc) (w : World) (hn : n = l.length) (hm : m = k.length) (hl : Arcs w A l) (hk : Arcs w B k) (h40 : l.length ≤ 1000) :
    Calls Try.prog 11 #[.slice A n c, .slice B m d] w fun e w' => e = .returned (.bool (sameB l k)) ∧ ∃ m, w' = w.drewN m := by
  subst hn hm
  have HL := Lib.hid hl
  have HK := Lib.hid hk
  clear hl hk
  by_cases hlen : l.length = k.length
  · have hle : ((l.length : Int) == (k.length : Int)) = true := by simp; omega
    go_enter Try.func11, Try.ntmps11
    go_wp2
    go_loopw [5] (fun v wr => ∃ i : Nat, i ≤ l.length ∧ v = .int .i64 i ∧ (∀ (j : Nat) (a b : Arc), j < i → l[j]? = some a → k[j]? = some b → a = b) ∧ Dr w wr) (fun v _ => l.length - (intOf v).toNat)
    case atStart => exact ⟨0, Nat.zero_le _, rfl, fun j a b hj => by omega, Dr.refl _⟩
    case round =>
      obtain ⟨i, hi, rfl, hall, hb⟩ := hrel
      have HA := Lib.hid hall
      have HB := Lib.hid hb
      clear hall hb
      by_cases hlt : i < l.length
      · have hlt2 : i < k.length := by omega
        obtain ⟨b1, o1, hA, hcs⟩ := (HL.out.below HB.out.below (Nat.le_refl _)).2.2 (by omega)
        obtain ⟨c1, c2, c3⟩ := hcs i l[i] (List.getElem?_eq_getElem hlt)
        obtain ⟨b2, o2, hB, hds⟩ := (HK.out.below HB.out.below (Nat.le_refl _)).2.2 (by omega)
        obtain ⟨d1, d2, d3⟩ := hds i k[i] (List.getElem?_eq_getElem hlt2)
        clear hcs hds
        subst hA hB
        have hla := Lib.hid (List.getElem?_eq_getElem hlt)
        have hkb := Lib.hid (List.getElem?_eq_getElem hlt2)
        generalize l[i] = a at c1 c2 c3 hla
        generalize k[i] = b at d1 d2 d3 hkb
        have i0 : (0 : Int) ≤ (i : Int) := by omega
        have i1 : (i : Int) < (l.length : Int) := by omega
        have i2 : (i : Int) < (k.length : Int) := by omega
        have hm := noGuard
        by_cases hab : a = b
        · have hne : ∀ w, (binOp .neq 41 (.agg #[.int .i64 a.u, .int .i64 a.v, .int .u64 a.w]) (.agg #[.int .i64 b.u, .int .i64 b.v, .int .u64 b.w])).run Try.prog w = .ok (.bool false) w := fun w => by rw [run_neq_arc, decide_eq_true hab]; rfl
          have hab' := Lib.hid hab
          clear hab
          go_wp2
          go_quiet (fail)
          go_wp2
          refine ⟨⟨i + 1, by omega, by go_num, fun j x y hj hx hy => ?_, HB.out.more _⟩, by simp [intOf]; omega⟩
          rcases Nat.lt_or_ge j i with h | h
          · exact HA.out j x y h hx hy
          · obtain rfl : j = i := by omega
            rw [hla.out] at hx; rw [hkb.out] at hy; cases hx; cases hy; exact hab'.out
        · have hne : ∀ w, (binOp .neq 41 (.agg #[.int .i64 a.u, .int .i64 a.v, .int .u64 a.w]) (.agg #[.int .i64 b.u, .int .i64 b.v, .int .u64 b.w])).run Try.prog w = .ok (.bool true) w := fun w => by rw [run_neq_arc, decide_eq_false hab]; rfl
          have hx := Lib.hid (same_at hla.out hkb.out hab)
          clear hab
          go_wp2
          go_quiet (fail)
          go_wp2
          go_ret
          exact ⟨by rw [hx.out]; rfl, HB.out.more _⟩
      · have hx := Lib.hid (same_all hlen (fun j a b ha hb => HA.out j a b (by have := (List.getElem?_eq_some_iff.1 ha).1; omega) ha hb))
        go_wp2
        go_ret
        exact ⟨by rw [hx.out]; rfl, HB.out⟩
  · have hx := Lib.hid (same_len hlen)
    have hle : ((l.length : Int) == (k.length : Int)) = false := by simp; omega
    have hle2 : ¬ ((l.length : Int) = (k.length : Int)) := by omega
    go_enter Try.func11, Try.ntmps11
    go_wp2
    go_ret
    exact ⟨by rw [hx.out]; rfl, Dr.refl _⟩
end Go.Proofs.Ytmlcghbhkpbaeaa
