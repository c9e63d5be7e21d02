/- wealdref04.Rows: are two rows of byte strings the same? -/
import Derived.Test.YtlbaedgmbdljpaaDoorSplit
import Derived.Laws.BytesArg
import Derived.Lib.SlicesS
import Derived.Deep.QuietTactic
import Derived.BigQuiet
namespace Go.Proofs.YtlbaedgmbdljpaaDoor
open Go.RowKit Aid

theorem conv_any {w : World} {A : Option Addr} {l : List Int} (h : Bytes w A l) (c n : Nat) (hn : n = l.length) : (convert 22 9 (.slice A n c)).run Tryd.prog w = .ok (.string (strOfNums l)) w := by
  subst hn
  by_cases hl : 0 < l.length
  · obtain ⟨b, off, rfl, hc⟩ := h.2.2 hl
    exact run_convert_bytes_arg w 22 5 Tryd.underlying22 Tryd.underlying5 b off l.length c l rfl hc 9 Tryd.underlying9
  · have hn : l = [] := List.eq_nil_of_length_eq_zero (by omega)
    subst hn
    cases A with
    | none => exact run_convert_bytes_nil w 22 5 Tryd.underlying22 Tryd.underlying5 _ c 9 Tryd.underlying9
    | some a =>
      rw [run_convert_bytes_string w 22 9 5 _ _ c Tryd.underlying22 Tryd.underlying5 Tryd.underlying9, List.length_nil, run_bytesToString w a 0 c [] (by simp [loadCells, loadCellsFrom])]
      rfl
theorem ofNat_inj {x y : Int} (h0 : 0 ≤ x) (h1 : x < 256) (h2 : 0 ≤ y) (h3 : y < 256) (h : UInt8.ofNat x.toNat = UInt8.ofNat y.toNat) : x = y := by
  have := congrArg UInt8.toNat h
  rw [UInt8.toNat_ofNat', UInt8.toNat_ofNat', Nat.mod_eq_of_lt (by omega), Nat.mod_eq_of_lt (by omega)] at this
  omega
theorem str_inj : ∀ {l m : List Int}, (∀ n ∈ l, 0 ≤ n ∧ n < 256) → (∀ n ∈ m, 0 ≤ n ∧ n < 256) → (l.map fun n => UInt8.ofNat n.toNat) = (m.map fun n => UInt8.ofNat n.toNat) → l = m
  | [], [], _, _, _ => rfl
  | [], _ :: _, _, _, h => by simp at h
  | _ :: _, [], _, _, h => by simp at h
  | x :: l, y :: m, hl, hm, h => by
    simp only [List.map_cons, List.cons.injEq] at h
    have hx := hl x (by simp)
    have hy := hm y (by simp)
    rw [ofNat_inj hx.1 hx.2 hy.1 hy.2 h.1, str_inj (fun n hn => hl n (by simp [hn])) (fun n hn => hm n (by simp [hn])) h.2]
theorem str_eq {l m : List Int} (hl : ∀ n ∈ l, 0 ≤ n ∧ n < 256) (hm : ∀ n ∈ m, 0 ≤ n ∧ n < 256) : strOfNums l = strOfNums m ↔ l = m := by
  constructor
  · intro h
    refine str_inj hl hm ?_
    have := congrArg (fun s : ByteArray => s.data.toList) h
    simpa only [strOfNums_data] using this
  · intro h; rw [h]

/-- A slice of slices of bytes in memory. -/
def Rws (w : World) (A : Option Addr) (L : List (List Int)) : Prop :=
  L.length ≤ 9223372036854775807 ∧ (0 < L.length → ∃ b off, A = some ⟨b, off, none⟩ ∧ ∀ i, i < L.length → ∃ Ai ci, (L.getD i []).length ≤ ci ∧ ci ≤ 9223372036854775807 ∧ w.cell? ⟨b, off + i, none⟩ = some (.slice Ai (L.getD i []).length ci) ∧ Bytes w Ai (L.getD i []))
theorem Rws.drewN {w : World} {A : Option Addr} {L : List (List Int)} (h : Rws w A L) (n : Nat) : Rws (w.drewN n) A L := h
theorem Rws.below {B : Nat} {w w' : World} {A : Option Addr} {L : List (List Int)} (h : Rws w A L) (hb : Below B w w') (hB : w.heap.size ≤ B) : Rws w' A L := by
  refine ⟨h.1, fun hp => ?_⟩
  obtain ⟨b, off, hA, hc⟩ := h.2 hp
  refine ⟨b, off, hA, fun i hi => ?_⟩
  obtain ⟨Ai, ci, h1, h2, h3, h4⟩ := hc i hi
  exact ⟨Ai, ci, h1, h2, (hb.cell (p := ⟨b, off + i, none⟩) (Nat.lt_of_lt_of_le (World.block_lt_of_cell? _ _ h3) hB)).trans h3, h4.below hb hB⟩

theorem take_next {L M : List (List Int)} {k : Nat} (h1 : k < L.length) (h2 : k < M.length) (h : L.take k = M.take k) : L.take (k + 1) = M.take (k + 1) ↔ L.getD k [] = M.getD k [] := by
  rw [List.take_succ_eq_append_getElem h1, List.take_succ_eq_append_getElem h2, h, List.getD_eq_getElem?_getD, List.getD_eq_getElem?_getD, List.getElem?_eq_getElem h1, List.getElem?_eq_getElem h2]
  constructor
  · intro e
    have := List.append_cancel_left e
    simpa using this
  · intro e
    have : L[k] = M[k] := by simpa using e
    rw [this]
set_option maxHeartbeats 2000000 in
theorem rows_any (A B : Option Addr) (c d n m : Nat) (L M : List (List Int)) (w : World) (hn : n = L.length) (hm : m = M.length) (hA : Rws w A L) (hB : Rws w B M) :
    Calls Tryd.prog 14 #[.slice A n c, .slice B m d] w fun e w' => e = .returned (.bool (decide (L = M))) ∧ ∃ q, w' = w.drewN q := by
  subst hn; subst hm
  have h1 := hA.1
  have h2 := hB.1
  have HA := Lib.hid hA
  have HB := Lib.hid hB
  clear hA hB
  by_cases hlen : L.length = M.length
  · go_enter Tryd.func14, Tryd.ntmps14
    go_wp2
    go_loopw [5] (fun i wr => ∃ k q, k ≤ L.length ∧ i = .int .i64 (k : Nat) ∧ L.take k = M.take k ∧ wr = w.drewN q) (fun i _ => L.length - (intOf i).toNat)
    case atStart => exact ⟨0, 0, Nat.zero_le _, rfl, rfl, rfl⟩
    case round =>
      obtain ⟨k, q, hk, rfl, ht, hwr⟩ := hrel
      have HW := Lib.hid hwr
      have HT := Lib.hid ht
      by_cases hlt : k < L.length
      · have HA' : Rws wr A L := by rw [hwr]; exact HA.out.drewN q
        have HB' : Rws wr B M := by rw [hwr]; exact HB.out.drewN q
        clear hwr ht
        obtain ⟨b1, o1, rfl, hc1⟩ := HA'.2 (by omega)
        obtain ⟨b2, o2, rfl, hc2⟩ := HB'.2 (by omega)
        obtain ⟨A1, d1, _, _, e1, y1⟩ := hc1 k hlt
        obtain ⟨A2, d2, _, _, e2, y2⟩ := hc2 k (by omega)
        have HS := Lib.hid (take_next hlt (show k < M.length from by omega) HT.out)
        clear HA' HB' hc1 hc2
        have HE : Hid (L = M → L.getD k [] = M.getD k []) := fun e => by rw [e]
        generalize L.getD k [] = x at e1 y1 HS HE
        generalize M.getD k [] = y at e2 y2 HS HE
        have HY := Lib.hid (str_eq y1.2.1 y2.2.1)
        have v1 : ∀ r, (convert 22 9 (.slice A1 x.length d1)).run Tryd.prog (wr.drewN r) = .ok (.string (strOfNums x)) (wr.drewN r) := fun r => conv_any (y1.drewN r) _ _ rfl
        have v2 : ∀ r, (convert 22 9 (.slice A2 y.length d2)).run Tryd.prog (wr.drewN r) = .ok (.string (strOfNums y)) (wr.drewN r) := fun r => conv_any (y2.drewN r) _ _ rfl
        have i1 : (k : Int) < (L.length : Int) := by omega
        have i2 : (k : Int) < (M.length : Int) := by omega
        clear y1 y2
        generalize L.length = nL at *
        go_wp2
        go_quiet (fail)
        cases hX : ((strOfNums x).toList == (strOfNums y).toList)
        · have HN : Hid (x ≠ y) := fun e => by rw [(HY.out).2 e] at hX; simp at hX
          clear hX
          go_wp2
          go_ret
          exact ⟨by rw [decide_eq_false (fun e => HN.out (HE.out e))]; rfl, q + nq, by rw [HW.out, World.drewN_drewN]⟩
        · have HX : Hid (x = y) := HY.out.1 ((Lib.bytes_beq_iff _ _).1 hX)
          clear hX
          go_wp2
          go_roundw
          case rel => exact ⟨k + 1, q + nq, by omega, by go_num, HS.out.2 HX.out, by rw [HW.out, World.drewN_drewN]⟩
          case measure => simp [intOf]; omega
      · have hkl : k = L.length := by omega
        have HD : Hid (decide (L = M) = true) := by
          refine decide_eq_true ?_
          have := HT.out
          rwa [hkl, List.take_length, hlen, List.take_length] at this
        clear hwr ht
        go_wp2
        go_ret
        exact ⟨by rw [HD.out]; rfl, q, HW.out⟩
  · go_enter Tryd.func14, Tryd.ntmps14
    go_wp2
    go_ret
    exact ⟨by rw [decide_eq_false (fun e => hlen (by rw [e]))]; rfl, 0, rfl⟩
end Go.Proofs.YtlbaedgmbdljpaaDoor
