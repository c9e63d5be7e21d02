/- The iterator over frames: frame.frames and its closure. -/
import Derived.Test.YtlbaedgmbdljpaaDoorModel
import Derived.Test.YtlbaedgmbdljpaaDoorRange
import Derived.Shelf.Abstract
import Derived.Shelf.RegionOpen
import Derived.OwnWalkIn
import Derived.TacticsInMore
import Derived.LoopNIn
import Derived.LoopIn
import Derived.Deep.QuietTactic
import Derived.BigQuiet
namespace Go.Proofs.YtlbaedgmbdljpaaDoor
open Go.RowKit Aid
attribute [local go_sem] Oper.semAt_some

theorem number_at (A : Option Addr) (c n : Nat) (l : List Int) (hn : n = l.length) (w : World) (hl : Bytes w A l) (h8 : l.length ≤ 8) :
    Calls Tryd.prog 22 #[.slice A n c] w fun e w' => e = .returned (.int .u64 (num l)) ∧ w = w' := by
  subst hn; exact number_any A c l w hl h8
theorem number_is (A : Option Addr) (c n : Nat) (l : List Int) (hn : n = l.length) (v : Int) (hv : num l = v) (w : World) (hl : Bytes w A l) (h8 : l.length ≤ 8) :
    Calls Tryd.prog 22 #[.slice A n c] w fun e w' => e = .returned (.int .u64 v) ∧ w = w' := by
  subst hv; exact number_at A c n l hn w hl h8
theorem size2_is (s : List Int) (k : Nat) (hk : k + 2 ≤ s.length) (hb : ∀ n ∈ s, 0 ≤ n ∧ n < 256) : ∃ n : Nat, num ((s.drop k).take 2) = (n : Int) ∧ n < 65536 ∧ size2 (s.drop k) = n := by
  have h := num_bound ((s.drop k).take 2) (fun n hn => hb n (List.mem_of_mem_drop (List.mem_of_mem_take hn)))
  rw [show ((s.drop k).take 2).length = 2 from by rw [List.length_take, List.length_drop]; omega] at h
  refine ⟨(num ((s.drop k).take 2)).toNat, by omega, by omega, rfl⟩
theorem Bytes.part {w : World} {b off : Nat} {l : List Int} (h : Bytes w (some ⟨b, off, none⟩) l) (i k : Nat) : Bytes w (some ⟨b, off + i, none⟩) ((l.drop i).take k) := by
  obtain ⟨h1, h2, h3⟩ := h
  refine ⟨by rw [List.length_take, List.length_drop]; omega, fun n hn => h2 n (List.mem_of_mem_drop (List.mem_of_mem_take hn)), fun hp => ?_⟩
  rw [List.length_take, List.length_drop] at hp
  obtain ⟨b', off', hA, hc⟩ := h3 (by omega)
  obtain ⟨rfl, rfl⟩ : b = b' ∧ off = off' := by simpa using hA
  refine ⟨b, off + i, rfl, fun j hj => ?_⟩
  rw [List.length_take, List.length_drop] at hj
  rw [Nat.add_assoc, hc (i + j) (by omega), List.getD_eq_getElem?_getD, List.getD_eq_getElem?_getD, List.getElem?_take_of_lt (by omega), List.getElem?_drop]

theorem clone_at (base : Nat) (A : Option Addr) (c n : Nat) (l : List Int) (hn : n = l.length) (w : World) (hb : base ≤ w.heap.size) (hl : Bytes w A l) (h0 : 0 < l.length) (h1 : l.length ≤ 70000) :
    Calls Tryd.prog 23 #[.slice A n c] w fun e w' => ∃ g c', e = .returned (.slice (some ⟨g, 0, none⟩) n c') ∧ w'.ownsRow base 5 1 (.slice (some ⟨g, 0, none⟩) n c') l.length (l.map (Value.int .u8)) ∧ w.heap.size ≤ g ∧ w.grownBy w' none := by
  subst hn; exact clone_any base A c l w hb hl h0 h1
theorem quietly {P : Program} {f : FuncId} {args : Array Value} {w : World} {n : Nat} {v : Value} (h : Calls P f args (w.drewN n) fun e w' => e = .returned v ∧ w.drewN n = w') :
    Calls P f args (w.drewN n) fun e w'' => e = .returned v ∧ ∃ m, w'' = w.drewN m :=
  Calls.quiet_of_same (h.mono fun _ _ h => ⟨h.1, h.2.symm⟩)
theorem frames_any (d : Nat) (A : Option Addr) (n c : Nat) (w : World) :
    CallsIn Fence.wide d Tryd.prog 18 #[.slice A n c] w fun e w' => e = .returned (.func (.func 21) #[] #[.pointer (some ⟨w.heap.size, 0, none⟩)]) ∧ w' = w.alloc (.cells #[.slice A n c] 22) := by
  refine callsIn_of_wp Tryd.func18 rfl trivial ?_ rfl
  simp only [Tryd.ntmps18, List.size_toArray, List.length_cons, List.length_nil, Nat.reduceAdd, Nat.reduceSub, Array.replicate_succ, Array.replicate_zero, List.push_toArray, List.append_toArray, List.nil_append, List.cons_append]
  gi_wp2
  go_ret
  exact ⟨rfl, rfl⟩

/-- What is gathered: each slice with its bytes; how far. -/
abbrev St := List (Value × List Int) × Nat
def Ended (s : List Int) (J : St → World → Prop) (W : World) : Prop := ∃ st : St, (st.1.map Prod.snd, st.2) = splitOf s ∧ J st W
theorem Tab.drewN {w : World} (h : Tab w) (m : Nat) : Tab (w.drewN m) := h
theorem Bytes.drewN {w : World} {A : Option Addr} {l : List Int} (h : Bytes w A l) (m : Nat) : Bytes (w.drewN m) A l := h
theorem grown_drewN (w : World) (m : Nat) : w.grownBy (w.drewN m) none := ⟨rfl, rfl, rfl, Nat.le_refl _, fun _ _ _ => rfl⟩

set_option maxRecDepth 100000 in
set_option maxHeartbeats 4000000 in
theorem frames1_in (l H B : Nat) (A : Option Addr) (cap : Nat) (s : List Int) (hcap : s.length ≤ cap) (hs : s.length ≤ 100000) (J : St → World → Prop)
    (hJb : ∀ st W, J st W → Boxed W B 22 (.slice A s.length cap) ∧ Tab W ∧ Bytes W A s ∧ H ≤ W.heap.size)
    (hJg : ∀ st W W', J st W → W.grownBy W' none → J st W')
    (hY : ∀ pre e (e' : Nat) (z : Int) u x W, z = (e' : Int) → J (pre, e) W → W.ownsRow H 5 1 u x.length (x.map (Value.int .u8)) → 0 < x.length → pre.length < 100000 →
      YieldAt Fence.wide 7 Tryd.prog l #[.int .i64 z, u] W fun r W' => r = .returned (.bool true) ∧ J (pre ++ [(u, x)], e') W')
    (W : World) (h0 : J ([], 0) W) :
    CallsIn Fence.wide 8 Tryd.prog 21 #[.func (.yield l) #[] #[], .pointer (some ⟨B, 0, none⟩)] W fun e W' => (∃ v, e = .returned v) ∧ Ended s J W' := by
  have HJb := Lib.hid hJb
  have HJg := Lib.hid hJg
  have HY := Lib.hid hY
  clear hJb hJg hY
  refine callsIn_of_wp Tryd.func21 rfl trivial ?_ rfl
  simp only [Tryd.ntmps21, List.size_toArray, List.length_cons, List.length_nil, Nat.reduceAdd, Nat.reduceSub, Array.replicate_succ, Array.replicate_zero, List.push_toArray, List.append_toArray, List.nil_append, List.cons_append]
  gi_wp2
  gi_loopw [3] (fun p wr => ∃ (k : Nat) (pre : List (Value × List Int)), p = .int .i64 k ∧ Upto s (pre.map Prod.snd) k ∧ J (pre, k) wr) (fun p _ => s.length - (intOf p).toNat)
  case atStart => exact ⟨0, [], rfl, Upto.start s, h0⟩
  case round =>
    obtain ⟨k, pre, rfl, hu, hj⟩ := hrel
    have HJ := Lib.hid hj
    have HU := Lib.hid hu
    have hks := hu.1
    have hbox := (HJb.out _ _ hj).1.cell
    clear hj hu
    by_cases h6 : k + 6 ≤ s.length
    · obtain ⟨b, off, hA, _⟩ := (HJb.out _ _ HJ.out).2.2.1.2.2 (by omega)
      subst hA
      have HT := Lib.hid (HJb.out _ _ HJ.out).2.1
      have HB := Lib.hid (HJb.out _ _ HJ.out).2.2.1
      have e2 := Lib.hid (show (2 : Nat) = ((s.drop k).take 2).length from by rw [List.length_take, List.length_drop]; omega)
      have l2 := Lib.hid (show ((s.drop k).take 2).length ≤ 8 from by rw [List.length_take]; omega)
      have b2 := Lib.hid (HB.out.part k 2)
      obtain ⟨n, hn, hn65, hsz⟩ := size2_is s k (by omega) HB.out.2.1
      have HN := Lib.hid hn
      have HZ := Lib.hid hsz
      clear hn hsz
      by_cases hn1 : n < 1
      · gi_wp2_with (first
          | (refine ⟨trivial, ?_⟩; gi_at_call 22; ((with_reducible refine (callsIn_wide.2 (number_is _ _ 2 ((s.drop k).take 2) e2.out _ HN.out _ b2.out l2.out)).mono ?_); rintro e w' ⟨rfl, rfl⟩)))
        refine bodyPost_ret (results_none rfl _ _ _) rfl ?_
        exact ⟨⟨_, rfl⟩, (pre, k), (HU.out.stop (fun f => by have := f.2.1; rw [HZ.out] at this; omega)).symm, HJ.out⟩
      by_cases hn2 : s.length < k + 6 + n
      · gi_wp2_with (first
          | (refine ⟨trivial, ?_⟩; gi_at_call 22; ((with_reducible refine (callsIn_wide.2 (number_is _ _ 2 ((s.drop k).take 2) e2.out _ HN.out _ b2.out l2.out)).mono ?_); rintro e w' ⟨rfl, rfl⟩)))
        refine bodyPost_ret (results_none rfl _ _ _) rfl ?_
        exact ⟨⟨_, rfl⟩, (pre, k), (HU.out.stop (fun f => by have := f.2.2.1; rw [HZ.out, List.length_drop] at this; omega)).symm, HJ.out⟩
      · gi_wp2_with (first
          | (refine ⟨trivial, ?_⟩; gi_at_call 22; ((with_reducible refine (callsIn_wide.2 (number_is _ _ 2 ((s.drop k).take 2) e2.out _ HN.out _ b2.out l2.out)).mono ?_); rintro e w' ⟨rfl, rfl⟩)))
        have hq : k + 6 + n - (k + 6) = n := by omega
        simp only [hq]
        clear hq
        have E1 := Lib.hid (show n = (body (s.drop k)).length from by unfold body; rw [HZ.out, List.length_take, List.length_drop, List.length_drop]; omega)
        have E4 := Lib.hid (show 4 = (((s.drop k).drop 2).take 4).length from by rw [List.length_take, List.length_drop, List.length_drop]; omega)
        have l4 := Lib.hid (show (((s.drop k).drop 2).take 4).length ≤ 8 from by rw [List.length_take]; omega)
        have B1 : Hid (Bytes wr (some ⟨b, off + (k + 6), none⟩) (body (s.drop k))) := by
          have := HB.out.part (k + 6) n
          unfold body; rw [HZ.out, List.drop_drop]; exact this
        have B4 : Hid (Bytes wr (some ⟨b, off + (k + 2), none⟩) (((s.drop k).drop 2).take 4)) := by
          have := HB.out.part (k + 2) 4
          rw [List.drop_drop]; exact this
        have w1 : IntKind.u64.wrap (N (sum (body (s.drop k)))) = N (sum (body (s.drop k))) := by
          have := N_nonneg (sum (body (s.drop k)))
          have := N_lt (sum (body (s.drop k)))
          rw [IntKind.wrap_u64]; omega
        have w2 : IntKind.i64.wrap ((k : Int) + 2) = (k : Int) + 2 := by rw [IntKind.wrap_i64]; omega
        have s0 : (0 : Int) ≤ (k : Int) + 2 := by omega
        have s1 : (0 : Int) ≤ (k : Int) + 6 := by omega
        have s2 : (k : Int) + 2 ≤ (k : Int) + 6 := by omega
        have s3 : (k : Int) + 6 ≤ (cap : Int) := by omega
        have t2 : ((k : Int) + 2).toNat = k + 2 := by omega
        have c2 : ¬ cap = k + 2 := by omega
        have t6 : ((k : Int) + 6).toNat = k + 6 := by omega
        refine wpIn_wide.2 ?_
        go_quiet (first
          | (go_at_call 16; with_reducible exact quietly (sum_at _ _ _ (body (s.drop k)) E1.out _ (HT.out.drewN _) (B1.out.drewN _)))
          | (go_at_call 22; with_reducible exact quietly (number_at _ _ _ (((s.drop k).drop 2).take 4) E4.out _ (B4.out.drewN _) l4.out)))
        clear w1 w2 s0 s1 s2 s3 t2 t6 c2
        have hdd : (s.drop k).drop 2 = s.drop (k + 2) := List.drop_drop
        cases hX : (N (sum (body (s.drop k))) != num ((s.drop (k + 2)).take 4))
        · have HF : Hid (Fits (s.drop k)) := ⟨by rw [List.length_drop]; omega, by rw [HZ.out]; omega, by rw [HZ.out, List.length_drop]; omega, by rw [hdd]; simpa using hX⟩
          clear hX hdd
          have hz := Lib.hid (show (k : Int) + 6 + (n : Int) = ((k + 6 + n : Nat) : Int) from by omega)
          have hpos := Lib.hid (show 0 < (body (s.drop k)).length from by have := E1.out; omega)
          have hpos' := Lib.hid (show (body (s.drop k)).length ≤ 70000 from by have := E1.out; omega)
          have hlen := Lib.hid (show pre.length < 100000 from by have := HU.out.2.1; rw [List.length_map] at this; omega)
          have HH : Hid (H ≤ (wr.drewN nq).heap.size) := (HJb.out _ _ HJ.out).2.2.2
          have HQ := Lib.hid (HJg.out _ _ _ HJ.out (grown_drewN wr nq))
          gi_wp2_with (first
            | (refine ⟨trivial, ?_⟩; gi_at_call 23; ((with_reducible refine (callsIn_wide.2 (clone_at H _ _ n (body (s.drop k)) E1.out (wr.drewN nq) HH.out (B1.out.drewN nq) hpos.out hpos'.out)).mono ?_); rintro e w1 ⟨g, c1, rfl, ho, hg, hgr⟩; obtain ⟨fn, tmps, assign, bd, hy, hR⟩ := HY.out pre k (k + 6 + n) _ _ (body (s.drop k)) w1 hz.out (HJg.out _ _ _ HQ.out hgr) ho hpos.out hlen.out; clear ho hg hgr)))
          refine hR.mono ?_
          rintro e W3 ⟨rfl, hJ3⟩
          gi_wp2
          go_roundw
          case rel => exact ⟨k + 6 + n, _, by rw [hz.out], by have := HU.out.go HF.out; rw [HZ.out] at this; simpa using this, hJ3⟩
          case measure => simp [intOf]; omega
        · have HF : Hid (¬ Fits (s.drop k)) := fun f => by have := f.2.2.2; rw [hdd] at this; simp [this] at hX
          clear hX hdd
          gi_wp2
          refine bodyPost_ret (results_none rfl _ _ _) rfl ?_
          exact ⟨⟨_, rfl⟩, (pre, k), (HU.out.stop HF.out).symm, HJg.out _ _ _ HJ.out (grown_drewN _ _)⟩
    · gi_wp2
      go_end0
      exact ⟨⟨_, rfl⟩, (pre, k), (HU.out.stop (fun f => by have := f.1; rw [List.length_drop] at this; omega)).symm, HJ.out⟩
end Go.Proofs.YtlbaedgmbdljpaaDoor
