/- wealdref20.Keys: the least one above the last one. -/
import Derived.Test.YthepgdfhdkhhbaaPtsPlain
namespace Go.Proofs.Ythepgdfhdkhhbaa
open Go.RowKit Aid

/-- A slice's length. -/
def lenOf : Value → Nat
  | .slice _ n _ => n
  | _ => 0
/-- A slice outside the row that grows. -/
theorem sl_grown {w w' : World} {row : Option Nat} {A : Option Addr} {xs : List Value} (h : Sl w A xs) (hg : w.grownBy w' row) (hne : ∀ a, A = some a → row ≠ some a.block) : Sl w' A xs := fun hp => by
  obtain ⟨b, off, hA, hc⟩ := h hp
  exact ⟨b, off, hA, fun j u hu => hg.cell (hc j u hu) (fun e => hne _ hA e.symm)⟩
/-- What the rounds keep: what was taken out rises, lies below the rest, and both are the row. -/
structure KeyInv (zs O A : List Int) : Prop where
  rise : O.Pairwise (· < ·)
  low : ∀ x ∈ O, ∀ y ∈ A, x < y
  mem : ∀ x, x ∈ zs ↔ x ∈ O ∨ x ∈ A
theorem KeyInv.start (zs : List Int) : KeyInv zs [] zs := ⟨List.Pairwise.nil, fun _ h => by simp at h, fun x => by simp⟩
theorem KeyInv.next {zs O A : List Int} (h : KeyInv zs O A) {y : Int} (hy : y ∈ A) (hl : ∀ x ∈ A, y ≤ x) : KeyInv zs (O ++ [y]) (A.filter (fun x => decide (y < x))) := by
  refine ⟨?_, ?_, ?_⟩
  · rw [List.pairwise_append]
    exact ⟨h.rise, List.pairwise_singleton _ _, fun x hx z hz => by rw [List.mem_singleton.1 hz]; exact h.low x hx y hy⟩
  · intro x hx z hz
    have hz2 : y < z := by simpa using (List.mem_filter.1 hz).2
    rcases List.mem_append.1 hx with q | q
    · exact h.low x q z (List.mem_filter.1 hz).1
    · rw [List.mem_singleton.1 q]; exact hz2
  · intro x
    rw [h.mem x, List.mem_append, List.mem_singleton, List.mem_filter]
    constructor
    · rintro (q | q)
      · exact .inl (.inl q)
      · rcases Int.lt_or_le y x with z | z
        · exact .inr ⟨q, by simpa using z⟩
        · exact .inl (.inr (by have := hl x q; omega))
    · rintro ((q | q) | q)
      · exact .inl q
      · rw [q]; exact .inr hy
      · exact .inr q.1
theorem KeyInv.done {zs O : List Int} (h : KeyInv zs O []) : O = uniq zs :=
  rise_eq h.rise (uniq_lt zs) fun x => by rw [mem_uniq, h.mem x]; simp
theorem filter_less {A : List Int} {y : Int} (hy : y ∈ A) : (A.filter (fun x => decide (y < x))).length < A.length := by
  refine List.length_filter_lt_length_iff_exists.2 ⟨y, hy, by simp⟩
theorem filt_step {A : List Int} {y : Int} {j : Nat} {x : Int} (h : A[j]? = some x) : (A.take (j + 1)).filter (fun x => decide (y < x)) = (A.take j).filter (fun x => decide (y < x)) ++ (if decide (y < x) then [x] else []) := by
  obtain ⟨hl, he⟩ := List.getElem?_eq_some_iff.1 h
  rw [List.take_succ_eq_append_getElem hl, List.filter_append, he]
  cases hq : decide (y < x) <;> simp [hq]
set_option maxHeartbeats 16000000 in
set_option maxRecDepth 100000 in
theorem rKeys_any (A : Option Addr) (c n : Nat) (l : List Cl) (w : World) (hn : n = l.length) (hl : Cls w A l) (h40 : l.length ≤ 12) :
    Calls Try.prog 18 #[.slice A n c] w fun e w' => ∃ B d, e = .returned (.slice B (keysOf l).length d) ∧ Sl w' B ((keysOf l).map (Value.int .i64)) ∧ Below w.heap.size w w' := by
  subst hn
  have HL := Lib.hid hl
  clear hl
  obtain ⟨i0, hi0, hz0, hz1, hz2⟩ := info_parts int_info
  have hone : Hid (∀ z : Int, ∀ u ∈ [Value.int .i64 z], u.oneCell' = true) := fun z u hu => by rw [List.mem_singleton.1 hu]; rfl
  go_enter Try.func18, Try.ntmps18
  go_wp2
  go_loopw [3, 4] (fun v j wr => ∃ k : Nat, k ≤ l.length ∧ j = .int .i64 k ∧ wr.ownsRow w.heap.size 3 1 v (namesOf (l.take k)).length ((namesOf (l.take k)).map (Value.int .i64)) ∧ Below w.heap.size w wr) (fun _ j _ => l.length - (intOf j).toNat)
  case atStart => exact ⟨0, Nat.zero_le _, rfl, World.ownsRow_nil _ _ _ _, Below.refl _ _⟩
  case round =>
    obtain ⟨k, hk, rfl, ho, hb⟩ := hrel
    obtain ⟨T, tc, hT⟩ := own_any ho
    subst hT
    have HO := Lib.hid ho
    have HB := Lib.hid hb
    clear ho hb
    obtain ⟨w0, hw0⟩ : ∃ w0, w0 = wr := ⟨_, rfl⟩
    subst hw0
    by_cases hlt : k < l.length
    · obtain ⟨a, hal⟩ : ∃ a, l[k]? = some a := ⟨l[k], List.getElem?_eq_getElem hlt⟩
      obtain ⟨p, off, hA, _⟩ := HL.out.get hal
      subst hA
      have AT : Hid (∀ W, Below w.heap.size w W → At W p (off + k * 13) a) := Lib.hid fun W hW => by
        obtain ⟨p', o', hA, h⟩ := (HL.out.below hW (Nat.le_refl _)).get hal
        cases hA; exact h
      have HN : Hid (namesOf (l.take (k + 1)) = namesOf (l.take k) ++ (if edgeB a.k then [a.u, a.v] else [a.u])) := Lib.hid (by rw [names_next hlt, (List.getElem?_eq_some_iff.1 hal).2])
      have hle := names_le (l.take k)
      have hle2 : (l.take k).length ≤ k := by rw [List.length_take]; omega
      clear hal
      generalize namesOf (l.take k) = nr at HO HN hle
      have k0 : (0 : Int) ≤ (k : Int) := by omega
      have k1 : (k : Int) < (l.length : Int) := by omega
      have n3 : IntKind.i64.wrap ((k : Int) + 1) = (k : Int) + 1 := by rw [IntKind.wrap_i64] <;> omega
      have m1 : nr.length + 1 ≤ maxLen := by unfold maxLen; omega
      have y1 : (nr.length + 1) * 8 ≤ 140737488355328 := by omega
      have m2 : nr.length + 1 + 1 ≤ maxLen := by unfold maxLen; omega
      have y2 : (nr.length + 1 + 1) * 8 ≤ 140737488355328 := by omega
      clear hle hle2
      have HA := Lib.hid (HB.out.alloc HB.out.size (.cells #[.int .i64 a.u] 3))
      have HOA := Lib.hid (HO.out.alloc (.cells #[.int .i64 a.u] 3))
      have HS1 := Lib.hid (one_sl w0 (.int .i64 a.u) 3)
      obtain ⟨c0, c1, c2, c3, c4, c5, c6, c7, c8, c9, c10, c11, c12⟩ := AT.out _ HB.out
      by_cases h14 : 14 ≤ a.k
      · have t1 : decide (14 ≤ a.k) = true := decide_eq_true h14
        by_cases h16 : a.k ≤ 16
        · have t2 : decide (a.k ≤ 16) = true := decide_eq_true h16
          have he := Lib.hid (show edgeB a.k = true from decide_eq_true ⟨h14, h16⟩)
          clear h14 h16
          go_wp2_with (first
            | (at_builtin
               refine wpList_append_sl _ rfl (.tmp 16) (.tmp 23) 26 rfl w.heap.size 3 i0 _ 1 8 Try.underlying26 hi0 hz0 hz1 hz2 rfl Nat.one_pos _ nr.length _ rfl HOA.out (some ⟨w0.heap.size, 0, none⟩) 1 1 [.int .i64 a.u] rfl rfl HS1.out (hone.out _) m1 y1 HA.out.size (nr.length + 1) rfl ?_
               intro A5 c5' w5 hown5 hb5 _ _
               have HO5 := Lib.hid hown5
               have HB5 := Lib.hid (HA.out.trans hb5)
               clear hown5 hb5 c0 c1 c2 c3 c4 c5 c6 c7 c8 c9 c10 c11 c12
               obtain ⟨c0, c1, c2, c3, c4, c5, c6, c7, c8, c9, c10, c11, c12⟩ := AT.out _ HB5.out
               have HS2 := Lib.hid (one_sl w5 (.int .i64 a.v) 3)
               have HB6 := Lib.hid (HB5.out.alloc HB5.out.size (.cells #[.int .i64 a.v] 3))
               have HO6 := Lib.hid (HO5.out.alloc (.cells #[.int .i64 a.v] 3)))
            | (at_builtin
               refine wpList_append_sl _ rfl (.tmp 41) (.tmp 48) 26 rfl w.heap.size 3 i0 _ 1 8 Try.underlying26 hi0 hz0 hz1 hz2 rfl Nat.one_pos _ (nr.length + 1) _ rfl HO6.out (some ⟨w5.heap.size, 0, none⟩) 1 1 [.int .i64 a.v] rfl rfl HS2.out (hone.out _) m2 y2 HB6.out.size (nr.length + 1 + 1) rfl ?_
               intro A7 c7' w7 hown7 hb7 _ _
               have HO7 := Lib.hid hown7
               have HB7 := Lib.hid (HB6.out.trans hb7)
               clear hown7 hb7))
          go_roundw
          case rel => exact ⟨k + 1, by omega, by go_num, by rw [HN.out, show edgeB a.k = true from he.out]; simpa using HO7.out, HB7.out⟩
          case measure => simp [intOf]; omega
        · have t2 : decide (a.k ≤ 16) = false := decide_eq_false h16
          have he := Lib.hid (show edgeB a.k = false from decide_eq_false (fun z => h16 z.2))
          clear h14 h16
          go_wp2_with (first
            | (at_builtin
               refine wpList_append_sl _ rfl (.tmp 16) (.tmp 23) 26 rfl w.heap.size 3 i0 _ 1 8 Try.underlying26 hi0 hz0 hz1 hz2 rfl Nat.one_pos _ nr.length _ rfl HOA.out (some ⟨w0.heap.size, 0, none⟩) 1 1 [.int .i64 a.u] rfl rfl HS1.out (hone.out _) m1 y1 HA.out.size (nr.length + 1) rfl ?_
               intro A5 c5' w5 hown5 hb5 _ _
               have HO5 := Lib.hid hown5
               have HB5 := Lib.hid (HA.out.trans hb5)
               clear hown5 hb5 c0 c1 c2 c3 c4 c5 c6 c7 c8 c9 c10 c11 c12
               obtain ⟨c0, c1, c2, c3, c4, c5, c6, c7, c8, c9, c10, c11, c12⟩ := AT.out _ HB5.out
               have HS2 := Lib.hid (one_sl w5 (.int .i64 a.v) 3)
               have HB6 := Lib.hid (HB5.out.alloc HB5.out.size (.cells #[.int .i64 a.v] 3))
               have HO6 := Lib.hid (HO5.out.alloc (.cells #[.int .i64 a.v] 3))))
          go_roundw
          case rel => exact ⟨k + 1, by omega, by go_num, by rw [HN.out, show edgeB a.k = false from he.out]; simpa using HO5.out, HB5.out⟩
          case measure => simp [intOf]; omega
      · have t1 : decide (14 ≤ a.k) = false := decide_eq_false h14
        have he := Lib.hid (show edgeB a.k = false from decide_eq_false (fun z => h14 z.1))
        clear h14
        · skip
          go_wp2_with (first
            | (at_builtin
               refine wpList_append_sl _ rfl (.tmp 16) (.tmp 23) 26 rfl w.heap.size 3 i0 _ 1 8 Try.underlying26 hi0 hz0 hz1 hz2 rfl Nat.one_pos _ nr.length _ rfl HOA.out (some ⟨w0.heap.size, 0, none⟩) 1 1 [.int .i64 a.u] rfl rfl HS1.out (hone.out _) m1 y1 HA.out.size (nr.length + 1) rfl ?_
               intro A5 c5' w5 hown5 hb5 _ _
               have HO5 := Lib.hid hown5
               have HB5 := Lib.hid (HA.out.trans hb5)
               clear hown5 hb5 c0 c1 c2 c3 c4 c5 c6 c7 c8 c9 c10 c11 c12
               obtain ⟨c0, c1, c2, c3, c4, c5, c6, c7, c8, c9, c10, c11, c12⟩ := AT.out _ HB5.out
               have HS2 := Lib.hid (one_sl w5 (.int .i64 a.v) 3)
               have HB6 := Lib.hid (HB5.out.alloc HB5.out.size (.cells #[.int .i64 a.v] 3))
               have HO6 := Lib.hid (HO5.out.alloc (.cells #[.int .i64 a.v] 3))))
          go_roundw
          case rel => exact ⟨k + 1, by omega, by go_num, by rw [HN.out, show edgeB a.k = false from he.out]; simpa using HO5.out, HB5.out⟩
          case measure => simp [intOf]; omega
    · obtain rfl : k = l.length := by omega
      rw [List.take_length] at HO ⊢
      have hle := names_le l
      have HK : Hid (keysOf l = uniq (namesOf l)) := Lib.hid rfl
      generalize namesOf l = zs at HO hle HK
      have HZ : zs.length ≤ 24 := by omega
      clear hle HL
      go_wp2
      go_loopw [3, 5] (fun v ov wr => ∃ T tc A O, v = .slice T A.length tc ∧ Sl wr T (A.map (Value.int .i64)) ∧ wr.ownsRow w.heap.size 3 1 ov O.length (O.map (Value.int .i64)) ∧ (∀ x, T = some x → ov.ownBlock ≠ some x.block) ∧ KeyInv zs O A ∧ O.length + A.length ≤ 24 ∧ Below w.heap.size w wr) (fun v _ _ => lenOf v)
      case atStart => exact ⟨T, tc, zs, [], rfl, own_sl HO.out, World.ownsRow_nil _ _ _ _, (fun _ _ => by simp [Value.ownBlock]), KeyInv.start zs, by simpa using HZ, HB.out⟩
      case round =>
        clear HO HB HZ
        obtain ⟨T, tc, A, O, rfl, hs, ho, hd, hinv, hlen, hb⟩ := hrel
        obtain ⟨U, uc, hU⟩ := own_any ho
        subst hU
        have HS := Lib.hid hs
        have HO := Lib.hid ho
        have HD := Lib.hid hd
        have HI := Lib.hid hinv
        have HB := Lib.hid hb
        clear hs ho hd hinv hb
        obtain ⟨w0, hw0⟩ : ∃ w0, w0 = wr := ⟨_, rfl⟩
        subst hw0
        by_cases h0 : 0 < A.length
        · have t0 : (0 : Int) < (A.length : Int) := by omega
          have t0' : decide ((0 : Int) < (A.length : Int)) = true := decide_eq_true t0
          have t0'' : decide (0 < A.length) = true := decide_eq_true h0
          obtain ⟨b, off, hT, hc⟩ := HS.out (by rw [List.length_map]; omega)
          subst hT
          have CJ : Hid (∀ W, Sl W (some ⟨b, off, none⟩) (A.map (Value.int .i64)) → ∀ j x, A[j]? = some x → W.cell? ⟨b, off + j, none⟩ = some (.int .i64 x)) := Lib.hid fun W hW j x hx => by
            obtain ⟨b', off', e, h⟩ := hW (by rw [List.length_map]; omega)
            cases e
            exact h j _ (by rw [List.getElem?_map, hx]; rfl)
          have h00 := CJ.out _ HS.out 0 A[0] (List.getElem?_eq_getElem h0)
          rw [Nat.add_zero] at h00
          have HM0 := Lib.hid (List.getElem_mem h0)
          clear hc
          generalize A[0] = y0 at h00 HM0
          go_wp2
          go_loopw [6, 7] (fun v u wr => ∃ (j : Nat) (y : Int), j ≤ A.length ∧ v = .int .i64 y ∧ u = .int .i64 j ∧ y ∈ A ∧ (∀ i x, i < j → A[i]? = some x → y ≤ x) ∧ wr = w0) (fun _ u _ => A.length - (intOf u).toNat)
          case atStart => exact ⟨0, y0, Nat.zero_le _, rfl, rfl, HM0.out, fun i x hi => by omega, rfl⟩
          case round =>
            clear h00 HM0
            obtain ⟨j, y, hj, rfl, rfl, hy, hlo, rfl⟩ := hrel
            have HY := Lib.hid hy
            have HLO := Lib.hid hlo
            clear hy hlo
            by_cases hlj : j < A.length
            · have j0 : (0 : Int) ≤ (j : Int) := by omega
              have j1 : (j : Int) < (A.length : Int) := by omega
              have n5 : IntKind.i64.wrap ((j : Int) + 1) = (j : Int) + 1 := by rw [IntKind.wrap_i64] <;> omega
              obtain ⟨x, hx⟩ : ∃ x, A[j]? = some x := ⟨A[j], List.getElem?_eq_getElem hlj⟩
              have cx := CJ.out _ HS.out j x hx
              have HX := Lib.hid hx
              clear hx
              by_cases hxy : x < y
              · have t1 : decide (x < y) = true := decide_eq_true hxy
                have hst : Hid (∀ i z, i < j + 1 → A[i]? = some z → x ≤ z) := Lib.hid fun i z hi hz => by
                  rcases Nat.lt_or_ge i j with q | q
                  · have := HLO.out i z q hz; omega
                  · obtain rfl : i = j := by omega
                    have := HX.out.symm.trans hz; injection this with this; omega
                have hm := Lib.hid (List.mem_of_getElem? HX.out)
                clear hxy
                go_wp2
                go_roundw
                case rel => exact ⟨j + 1, x, by omega, rfl, by go_num, hm.out, hst.out, by first | rfl | trivial⟩
                case measure => simp [intOf]; omega
              · have t1 : decide (x < y) = false := decide_eq_false hxy
                have hst : Hid (∀ i z, i < j + 1 → A[i]? = some z → y ≤ z) := Lib.hid fun i z hi hz => by
                  rcases Nat.lt_or_ge i j with q | q
                  · exact HLO.out i z q hz
                  · obtain rfl : i = j := by omega
                    have := HX.out.symm.trans hz; injection this with this; omega
                clear hxy
                go_wp2
                go_roundw
                case rel => exact ⟨j + 1, y, by omega, rfl, by go_num, HY.out, hst.out, by first | rfl | trivial⟩
                case measure => simp [intOf]; omega
            · obtain rfl : j = A.length := by omega
              have HLE : Hid (∀ x ∈ A, y ≤ x) := Lib.hid fun x hx => by
                obtain ⟨i, hi, he⟩ := List.mem_iff_getElem.1 hx
                exact HLO.out i x hi (by rw [List.getElem?_eq_getElem hi, he])
              have HI2 := Lib.hid (HI.out.next HY.out HLE.out)
              have HLS := Lib.hid (filter_less HY.out)
              have m1 : O.length + 1 ≤ maxLen := by unfold maxLen; omega
              have y1 : (O.length + 1) * 8 ≤ 140737488355328 := by omega
              have HA := Lib.hid (HB.out.alloc HB.out.size (.cells #[.int .i64 y] 3))
              have HOA := Lib.hid (HO.out.alloc (.cells #[.int .i64 y] 3))
              have HS1 := Lib.hid (one_sl wr (.int .i64 y) 3)
              have HSA := Lib.hid (HS.out.below ((Below.refl wr.heap.size wr).alloc (Nat.le_refl _) (.cells #[.int .i64 y] 3)) (Nat.le_refl _))
              clear HLO HLE HI HY hlj
              go_wp2_with (first
                | (at_builtin
                   refine wpList_append_sl _ rfl (.tmp 72) (.tmp 74) 26 rfl w.heap.size 3 i0 _ 1 8 Try.underlying26 hi0 hz0 hz1 hz2 rfl Nat.one_pos _ O.length _ rfl HOA.out (some ⟨wr.heap.size, 0, none⟩) 1 1 [.int .i64 y] rfl rfl HS1.out (hone.out _) m1 y1 HA.out.size (O.length + 1) rfl ?_
                   intro A5 c5' w5 hown5 hb5 hg5 _
                   have HO5 := Lib.hid hown5
                   have HB5 := Lib.hid (HA.out.trans hb5)
                   have HS5 := Lib.hid (sl_grown HSA.out hg5 HD.out)
                   clear hown5 hb5 hg5))
              go_loopw [8, 9] (fun v u wr => ∃ j : Nat, j ≤ A.length ∧ u = .int .i64 j ∧ wr.ownsRow w5.heap.size 3 1 v ((A.take j).filter (fun x => decide (y < x))).length (((A.take j).filter (fun x => decide (y < x))).map (Value.int .i64)) ∧ Below w5.heap.size w5 wr) (fun _ u _ => A.length - (intOf u).toNat)
              case atStart => exact ⟨0, Nat.zero_le _, rfl, World.ownsRow_nil _ _ _ _, Below.refl _ _⟩
              case round =>
                obtain ⟨j, hj, rfl, ho, hb⟩ := hrel
                obtain ⟨R, rc, hR⟩ := own_any ho
                subst hR
                have HR := Lib.hid ho
                have HC := Lib.hid hb
                clear ho hb
                obtain ⟨w6, hw6⟩ : ∃ w6, w6 = wr := ⟨_, rfl⟩
                subst hw6
                have HS6 := Lib.hid (HS5.out.below HC.out (Nat.le_refl _))
                by_cases hlj : j < A.length
                · have j0 : (0 : Int) ≤ (j : Int) := by omega
                  have j1 : (j : Int) < (A.length : Int) := by omega
                  have n5 : IntKind.i64.wrap ((j : Int) + 1) = (j : Int) + 1 := by rw [IntKind.wrap_i64] <;> omega
                  obtain ⟨x, hx⟩ : ∃ x, A[j]? = some x := ⟨A[j], List.getElem?_eq_getElem hlj⟩
                  have cx := CJ.out _ HS6.out j x hx
                  have FS := Lib.hid (filt_step (y := y) hx)
                  have hfl := List.length_filter_le (fun x => decide (y < x)) (A.take j)
                  rw [List.length_take] at hfl
                  clear hx
                  generalize (A.take j).filter (fun x => decide (y < x)) = fr at HR FS hfl
                  by_cases hxy : y < x
                  · have t1 : decide (y < x) = true := decide_eq_true hxy
                    rw [t1] at FS
                    have m3 : fr.length + 1 ≤ maxLen := by unfold maxLen; omega
                    have y3 : (fr.length + 1) * 8 ≤ 140737488355328 := by omega
                    have HS7 := Lib.hid (one_sl w6 (.int .i64 x) 3)
                    have HC7 := Lib.hid (HC.out.alloc HC.out.size (.cells #[.int .i64 x] 3))
                    have HR7 := Lib.hid (HR.out.alloc (.cells #[.int .i64 x] 3))
                    clear hxy hfl
                    go_wp2_with (first
                      | (at_builtin
                         refine wpList_append_sl _ rfl (.tmp 88) (.tmp 93) 26 rfl w5.heap.size 3 i0 _ 1 8 Try.underlying26 hi0 hz0 hz1 hz2 rfl Nat.one_pos _ fr.length _ rfl HR7.out (some ⟨w6.heap.size, 0, none⟩) 1 1 [.int .i64 x] rfl rfl HS7.out (hone.out _) m3 y3 HC7.out.size (fr.length + 1) rfl ?_
                         intro A8 c8' w8 hown8 hb8 _ _
                         have HR8 := Lib.hid hown8
                         have HC8 := Lib.hid (HC7.out.trans hb8)
                         clear hown8 hb8))
                    go_roundw
                    case rel => exact ⟨j + 1, by omega, by go_num, by rw [FS.out]; simpa using HR8.out, HC8.out⟩
                    case measure => simp [intOf]; omega
                  · have t1 : decide (y < x) = false := decide_eq_false hxy
                    rw [t1] at FS
                    clear hxy hfl
                    go_wp2
                    go_roundw
                    case rel => exact ⟨j + 1, by omega, by go_num, by rw [FS.out]; simpa using HR.out, HC.out⟩
                    case measure => simp [intOf]; omega
                · obtain rfl : j = A.length := by omega
                  rw [List.take_length] at HR ⊢
                  have HO6 := Lib.hid (row_below HO5.out HC.out (Nat.le_refl _))
                  have HB6 := Lib.hid (HB5.out.trans (HC.out.mono HB5.out.size))
                  have HSR := Lib.hid (own_sl HR.out)
                  have hls := HLS.out
                  have HNE : Hid (∀ x, R = some x → (Value.slice A5 (O.length + 1) c5').ownBlock ≠ some x.block) := Lib.hid fun x hx e => by
                    have h1 := (HO5.out.lt _ e).2
                    have h2 := (HR.out.lt x.block (by rw [hx]; rfl)).1
                    omega
                  generalize A.filter (fun x => decide (y < x)) = fr at HR HI2 HSR hls
                  go_wp2
                  go_roundw
                  case rel => exact ⟨R, rc, fr, O ++ [y], rfl, HSR.out, by simpa using HO6.out, by simpa using HNE.out, HI2.out, by rw [List.length_append]; simp; omega, HB6.out⟩
                  case measure => simp [lenOf]; omega
        · obtain rfl : A = [] := List.eq_nil_of_length_eq_zero (by omega)
          have hO := Lib.hid HI.out.done
          have HSO := Lib.hid (own_sl HO.out)
          have e1 := hO.out
          subst e1
          go_wp2
          go_ret
          rw [HK.out]
          exact ⟨_, ⟨_, rfl⟩, HSO.out, HB.out⟩
end Go.Proofs.Ythepgdfhdkhhbaa
