/- The walk through the statement FrameBack. -/
import Derived.Test.YtlbaedgmbdljpaaDoorLaws4
namespace Go.Proofs.YtlbaedgmbdljpaaDoor
open Go.RowKit Aid

theorem split_flat : ∀ (L : List (List Int)) (rest : List Int), (∀ l ∈ L, 1 ≤ l.length ∧ l.length ≤ 65535) → splitOf (flat L ++ rest) = (L ++ (splitOf rest).1, (flat L).length + (splitOf rest).2)
  | [], rest, _ => by simp [flat]
  | b :: L, rest, h => by
    have hb := h b (by simp)
    have ih := split_flat L rest (fun l hl => h l (by simp [hl]))
    rw [flat_cons, List.append_assoc, splitOf_frame _ _ (by omega) hb.2, ih, List.length_append, frame_length]
    simp only [List.cons_append]
    congr 1
    omega
theorem cut_frame {b : List Int} {r : Nat} (h1 : b.length ≤ 65535) (hr : r < b.length + 6) (rest : List Int) : splitOf ((frame b ++ rest).take r) = ([], 0) := splitOf_stop fun f => by
  have hl := frame_length b
  have e : (frame b ++ rest).take r = (frame b).take r := List.take_append_of_le_length (by omega)
  rw [e] at f
  have h6 := f.1
  rw [List.length_take] at h6
  have h2 : (bytesOf (b.length : Int) 2).length = 2 := by simp [bytesOf]
  have e2 : ((frame b).take r).take 2 = bytesOf (b.length : Int) 2 := by
    rw [List.take_take, Nat.min_eq_left (by omega)]
    unfold frame heads
    rw [List.append_assoc, List.take_left' h2]
  have es : size2 ((frame b).take r) = b.length := by unfold size2; rw [e2, num_bytes2 _ (by omega) (by omega)]; omega
  have := f.2.2.1
  rw [es, List.length_take] at this
  omega
/-- The place behind the first j frames. -/
def ends (L : List (List Int)) (j : Nat) : Nat := (flat (L.take j)).length
theorem ends_all (L : List (List Int)) : ends L L.length = (flat L).length := by unfold ends; rw [List.take_length]
theorem ends_next {L : List (List Int)} {j : Nat} (h : j < L.length) : ends L (j + 1) = ends L j + ((L.getD j []).length + 6) := by
  unfold ends; rw [flat_next L j h, List.length_append, frame_length]
theorem split_cut {L : List (List Int)} (hv : ∀ l ∈ L, 1 ≤ l.length ∧ l.length ≤ 65535) {q h : Nat} (hh : h ≤ L.length) (h1 : ends L h ≤ q) (h2 : h < L.length → q < ends L (h + 1)) :
    splitOf ((flat L).take q) = (L.take h, ends L h) := by
  have e0 : flat L = flat (L.take h) ++ flat (L.drop h) := by rw [← flat_append, List.take_append_drop]
  have e : (flat L).take q = flat (L.take h) ++ (flat (L.drop h)).take (q - ends L h) := by
    rw [e0]
    have : q = (flat (L.take h)).length + (q - ends L h) := by unfold ends at h1 ⊢; omega
    conv => lhs; rw [this]
    rw [List.take_length_add_append]
  rw [e, split_flat _ _ (fun l hl => hv l (List.mem_of_mem_take hl))]
  have hr : splitOf ((flat (L.drop h)).take (q - ends L h)) = ([], 0) := by
    by_cases hlt : h < L.length
    · have hd : L.drop h = L.getD h [] :: L.drop (h + 1) := by
        rw [List.drop_eq_getElem_cons hlt, List.getD_eq_getElem?_getD, List.getElem?_eq_getElem hlt]; rfl
      have hm : L.getD h [] ∈ L := by rw [List.getD_eq_getElem?_getD, List.getElem?_eq_getElem hlt]; exact List.getElem_mem hlt
      have hn := ends_next hlt
      have h3 := h2 hlt
      rw [hd, flat_cons]
      exact cut_frame (hv _ hm).2 (by omega) _
    · rw [List.drop_eq_nil_of_le (by omega)]
      exact splitOf_short _ (by simp [flat])
  rw [hr]
  simp [ends]

theorem int_info : (Tryd.prog.info? 3).map (fun i => (i.zero, i.size, i.bytes)) = some (some (.int .i64 0), 1, 8) := by kernel_rfl
/-- The ends as the program holds them. -/
def endVals (L : List (List Int)) (k : Nat) : List Value := (List.range k).map fun j => .int .i64 ((ends L (j + 1) : Nat) : Int)
theorem endVals_next (L : List (List Int)) (k : Nat) : endVals L (k + 1) = endVals L k ++ [.int .i64 ((ends L (k + 1) : Nat) : Int)] := by
  unfold endVals; rw [List.range_succ, List.map_append]; rfl
/-- The rows so far are as the statement wants them. -/
def Good (L : List (List Int)) (n k : Nat) : Prop := ∀ j, j < k → 1 ≤ (L.getD j []).length ∧ (L.getD j []).length ≤ n
theorem Good.bound {L : List (List Int)} {n : Nat} : ∀ {k : Nat}, Good L n k → k ≤ L.length → ends L k ≤ k * (n + 6)
  | 0, _, _ => by simp [ends, flat]
  | k + 1, h, hk => by
    have ih := Good.bound (k := k) (fun j hj => h j (by omega)) (by omega)
    have := (h k (by omega)).2
    rw [ends_next (by omega), Nat.succ_mul]
    omega
theorem ends_zero (L : List (List Int)) : ends L 0 = 0 := by unfold ends; rfl
theorem ends_flat (L : List (List Int)) (k : Nat) : (flat (L.take k)).length = ends L k := by unfold ends; rfl
theorem own_cells {w : World} {base : Nat} {e : TypeId} {g n c : Nat} {xs : List Value} (h : w.ownsRow base e 1 (.slice (some ⟨g, 0, none⟩) n c) n xs) : base ≤ g ∧ ∀ j u, xs[j]? = some u → w.cell? ⟨g, j, none⟩ = some u := by
  rcases own_form h with ⟨hv, _, _⟩ | ⟨g', cap, hv, hb, _, _, _, hc, _⟩
  · cases hv
  · injection hv with hA
    obtain rfl : g = g' := by simpa using hA
    exact ⟨hb, fun j u hu => by simpa only [Nat.zero_add] using hc j u hu⟩
theorem endVals_get (L : List (List Int)) {j n : Nat} (h : j < n) : (endVals L n)[j]? = some (.int .i64 ((ends L (j + 1) : Nat) : Int)) := by
  unfold endVals; rw [List.getElem?_map, List.getElem?_range h]; rfl
theorem Rws.take {w : World} {A : Option Addr} {L : List (List Int)} (h : Rws w A L) (k : Nat) : Rws w A (L.take k) := by
  refine ⟨by rw [List.length_take]; have := h.1; omega, fun hp => ?_⟩
  rw [List.length_take] at hp
  obtain ⟨b, off, hA, hc⟩ := h.2 (by omega)
  refine ⟨b, off, hA, fun i hi => ?_⟩
  rw [List.length_take] at hi
  have e : (L.take k).getD i [] = L.getD i [] := by rw [List.getD_eq_getElem?_getD, List.getD_eq_getElem?_getD, List.getElem?_take_of_lt (by omega)]
  rw [e]
  exact hc i (by omega)
attribute [irreducible] ends endVals
set_option maxRecDepth 100000 in
set_option maxHeartbeats 4000000 in
theorem back_walk (A : Option Addr) (c : Nat) (L : List (List Int)) (x : Int) (x0 : 0 ≤ x) (x1 : x < 65536) (w : World) (ht : Tab w) (hl : Rws w A L) (hc : L.length ≤ c) (_hC : c ≤ 9223372036854775807) :
    Calls Tryd.prog 4 #[.slice A L.length c, .int .u16 x] w fun e w' => e = .returned (.bool true) ∧ Below w.heap.size w w' := by
  have HT := Lib.hid ht
  have HL := Lib.hid hl
  clear ht hl
  by_cases h1 : 12 < L.length
  · go_enter Tryd.func4, Tryd.ntmps4
    go_wp2_with (go_at_call 9; refine (shown_any _ HT.out).mono ?_; rintro e w1 ⟨rfl, hb⟩)
    go_ret
    exact ⟨rfl, hb⟩
  · obtain ⟨i0, hi0, hz0, hz1, hz2⟩ := info_parts byte_info
    obtain ⟨j0, hj0, hy0, hy1, hy2⟩ := info_parts int_info
    go_enter Tryd.func4, Tryd.ntmps4
    go_wp2_with (go_at_call 9; ((with_reducible refine (shown_any _ HT.out).mono ?_); rintro e w1 ⟨rfl, hb1⟩; have HB1 := Lib.hid hb1; clear hb1))
    go_loopw [6, 7, 8] (fun v u i wr => ∃ k : Nat, k ≤ L.length ∧ i = .int .i64 k ∧ Good L 100 k ∧ wr.ownsRow w1.heap.size 5 1 v (ends L k) ((flat (L.take k)).map (Value.int .u8)) ∧ wr.ownsRow w1.heap.size 3 1 u k (endVals L k) ∧ Below w1.heap.size w1 wr) (fun _ _ i _ => L.length - (intOf i).toNat)
    case atStart => exact ⟨0, Nat.zero_le _, rfl, fun j hj => (by omega), by rw [ends_zero]; exact World.ownsRow_nil _ _ _ _, by unfold endVals; exact World.ownsRow_nil _ _ _ _, Below.refl _ _⟩
    case round =>
      obtain ⟨k, hk, rfl, hg, ho, hp, hb⟩ := hrel
      have HBr := Lib.hid hb
      have HB3 := Lib.hid (later HB1.out hb)
      have HT3 := Lib.hid (HT.out.below HB3.out HT.out.heap)
      obtain ⟨T, tc, hT⟩ := own_any ho
      obtain ⟨U, uc, hU⟩ := own_any hp
      subst hT
      subst hU
      have HOr := Lib.hid ho
      have HPr := Lib.hid hp
      have HG := Lib.hid hg
      clear ho hp hb hg
      by_cases hlt : k < L.length
      · obtain ⟨b, off, hX, hcs⟩ := (HL.out.below HB3.out (Nat.le_refl _)).2 (by omega)
        obtain ⟨Ai, ci, _, _, hcell, hby⟩ := hcs k hlt
        subst hX
        have hblk := Lib.hid (World.block_lt_of_cell? _ _ hcell)
        have hN := Lib.hid (flat_next L k hlt)
        have hEn := Lib.hid (ends_next hlt)
        have hgk := Lib.hid (show 1 ≤ (L.getD k []).length → (L.getD k []).length ≤ 100 → Good L 100 (k + 1) from fun g1 g2 j hj => by
          rcases Nat.lt_or_ge j k with h | h
          · exact HG.out j h
          · obtain rfl : j = k := by omega
            exact ⟨g1, g2⟩)
        have HY := Lib.hid hby
        generalize L.getD k [] = y at hcell HY hN hEn hgk
        clear hcs hby
        by_cases e1 : y.length < 1
        · go_wp2
          go_ret
          exact ⟨rfl, HB3.out⟩
        by_cases e2 : 100 < y.length
        · go_wp2
          go_ret
          exact ⟨rfl, HB3.out⟩
        have p1 := Lib.hid (show 0 < y.length from by omega)
        have p2 := Lib.hid (show y.length ≤ 65535 from by omega)
        have hG1 := Lib.hid (hgk.out (by omega) (by omega))
        have hbd := Lib.hid (HG.out.bound hk)
        have m1 : ends L k + (y.length + 6) ≤ maxLen := by unfold maxLen; have := hbd.out; omega
        have k1 : (ends L k + (y.length + 6)) * 1 ≤ 140737488355328 := by have := hbd.out; omega
        have m2 : k + 1 ≤ maxLen := by unfold maxLen; omega
        have k2 : (k + 1) * 8 ≤ 140737488355328 := by omega
        have l1 := Lib.hid (show ((frame y).map (Value.int .u8)).length = (y.length + 6) * 1 from by rw [List.length_map, frame_length]; omega)
        have hone : Hid (∀ z : Int, ∀ u ∈ [Value.int .i64 z], u.oneCell' = true) := fun z u hu => by rw [List.mem_singleton.1 hu]; rfl
        have hez := Lib.hid (show ((ends L k : Nat) : Int) + ((y.length : Int) + 6) = ((ends L (k + 1) : Nat) : Int) from by have := hEn.out; omega)
        clear hgk
        go_wp2_with (first
          | (go_at_call 10; ((with_reducible refine (put_at Ai ci y.length y rfl _ HT3.out HY.out p1.out p2.out).mono ?_); rintro e w4 ⟨g, pd, rfl, _, _, ho4, hb4⟩; have HO4 := Lib.hid (own_sl ho4); have HB4 := Lib.hid (later HBr.out hb4); have HR4 := Lib.hid (row_below HOr.out hb4 (Nat.le_refl _)); have HP4 := Lib.hid (row_below HPr.out hb4 (Nat.le_refl _)); have hc4 := (hb4.cell (p := ⟨b, off + k, none⟩) hblk.out).trans hcell; clear ho4 hb4))
          | (at_builtin
             refine wpList_append_sl _ rfl (.tmp 65) (.tmp 66) 22 rfl w1.heap.size 5 i0 _ 1 1 Tryd.underlying22 hi0 hz0 hz1 hz2 rfl Nat.one_pos _ (ends L k) _ rfl HR4.out (some ⟨g, 0, none⟩) (y.length + 6) pd ((frame y).map (Value.int .u8)) rfl l1.out HO4.out (ints_one _ _) m1 k1 HB4.out.size (ends L k + (y.length + 6)) rfl ?_
             intro A5 c5 w5 hown5 hb5 hg5 _
             have HO5 := Lib.hid hown5
             have HB5 := Lib.hid (HB4.out.trans hb5)
             have HP5 := Lib.hid (HP4.out.kept hg5 (rows_apart HP4.out HR4.out (by decide)))
             have HA5 := Lib.hid (HB5.out.alloc HB5.out.size (.cells #[.int .i64 (((ends L k : Nat) : Int) + ((y.length : Int) + 6))] 3))
             clear hown5 hb5 hg5)
          | (at_builtin
             refine wpList_append_sl _ rfl (.tmp 68) (.tmp 71) 35 rfl w1.heap.size 3 j0 _ 1 8 Tryd.underlying35 hj0 hy0 hy1 hy2 rfl Nat.one_pos _ k _ rfl (HP5.out.alloc _) (some ⟨w5.heap.size, 0, none⟩) 1 1 [.int .i64 (((ends L k : Nat) : Int) + ((y.length : Int) + 6))] rfl rfl (one_sl w5 _ 3) (hone.out _) m2 k2 HA5.out.size (k + 1) rfl ?_
             intro A6 c6 w6 hown6 hb6 hg6 _
             have HO6 := Lib.hid ((HO5.out.alloc _).kept hg6 (rows_apart HO5.out HP5.out (by decide)))
             have HP6 := Lib.hid hown6
             have HB6 := Lib.hid (HA5.out.trans hb6)
             clear hown6 hb6 hg6))
        go_roundw
        case rel => exact ⟨k + 1, by omega, by go_num, hG1.out, by rw [hN.out, hEn.out, List.map_append]; exact HO6.out, by rw [endVals_next, ← hez.out]; exact HP6.out, HB6.out⟩
        case measure => simp [intOf]; omega
      · have hkl : k = L.length := by omega
        have e0 : ends L k = (flat L).length := by rw [hkl]; exact ends_all L
        have hbd := HG.out.bound hk
        have HF := Lib.hid (show wr.ownsRow w1.heap.size 5 1 (.slice T (flat L).length tc) (flat L).length ((flat L).map (Value.int .u8)) from by have := HOr.out; rw [e0, hkl, List.take_length] at this; exact this)
        rw [e0] at hbd ⊢
        have hv := Lib.hid (show ∀ l ∈ L, 1 ≤ l.length ∧ l.length ≤ 100 from fun l hl => by
          obtain ⟨j, hj, rfl⟩ := List.getElem_of_mem hl
          have := HG.out j (by omega)
          rwa [List.getD_eq_getElem?_getD, List.getElem?_eq_getElem hj] at this)
        have HPf := Lib.hid (show wr.ownsRow w1.heap.size 3 1 (.slice U L.length uc) L.length (endVals L L.length) from by have := HPr.out; rwa [hkl] at this)
        have hn : ∃ n : Nat, (flat L).length = n := ⟨_, rfl⟩
        obtain ⟨n, hn⟩ := hn
        have HNn := Lib.hid hn
        rw [hn] at hbd ⊢
        obtain ⟨q, hq⟩ : ∃ q : Nat, x % ((n : Int) + 1) = (q : Int) := ⟨(x % ((n : Int) + 1)).toNat, by have := Int.emod_nonneg x (show ((n : Int) + 1) ≠ 0 by omega); omega⟩
        have hqn : q ≤ n := by have := Int.emod_lt_of_pos x (show (0 : Int) < (n : Int) + 1 by omega); omega
        have hn1 : n ≤ 12 * 106 := by have : k * (100 + 6) ≤ 12 * 106 := Nat.mul_le_mul_right 106 (by omega); omega
        subst hkl
        clear hlt hk hbd hn e0
        go_wp2
        rw [hq]
        have s1 := Lib.hid (show n = (flat L).length from HNn.out.symm)
        have s2 := Lib.hid (show (flat L).length ≤ tc from (own_cap HF.out).1)
        have s3 := Lib.hid (show (flat L).length ≤ 100000 from by rw [HNn.out]; omega)
        have hsp := split_flat L [] (fun l hl => ⟨(hv.out l hl).1, by have := (hv.out l hl).2; omega⟩)
        rw [List.append_nil, splitOf_short [] (by simp)] at hsp
        have s4 := Lib.hid (show (splitOf (flat L)).1 = L from by rw [hsp]; simp)
        have s5 := Lib.hid (show ((splitOf (flat L)).2 : Int) = (n : Int) from by rw [hsp, HNn.out]; simp)
        have hLb : ∀ l ∈ L, ∀ z ∈ l, 0 ≤ z ∧ z < 256 := fun l hl => by
          obtain ⟨j, hj, rfl⟩ := List.getElem_of_mem hl
          obtain ⟨_, _, _, hcs⟩ := HL.out.2 (by omega)
          obtain ⟨_, _, _, _, _, hby⟩ := hcs j hj
          have := hby.2.1
          rwa [List.getD_eq_getElem?_getD, List.getElem?_eq_getElem hj] at this
        have HY1 := Lib.hid (Bytes.of_sl (l := flat L) (own_sl HF.out) (by rw [HNn.out]; omega) (flat_bounds hLb))
        have HY2 := Lib.hid (HY1.out.part0 q)
        have r1 := Lib.hid (show q = ((flat L).take q).length from by rw [List.length_take, HNn.out]; omega)
        have r2 := Lib.hid (show ((flat L).take q).length ≤ tc from by rw [← r1.out]; have := s2.out; have := HNn.out; omega)
        have r3 := Lib.hid (show ((flat L).take q).length ≤ 100000 from by rw [← r1.out]; omega)
        have hqtc : (q : Int) ≤ (tc : Int) := by have := s2.out; have := HNn.out; omega
        clear hsp hLb
        go_loop [12] (fun i => ∃ h : Nat, h ≤ L.length ∧ i = .int .i64 h ∧ ends L h ≤ q) (fun i => L.length - (intOf i).toNat)
        case atStart => exact ⟨0, Nat.zero_le _, rfl, by rw [ends_zero]; omega⟩
        case round =>
          obtain ⟨h, hh, rfl, h1⟩ := hrel
          by_cases hlt : h < L.length
          · obtain ⟨gv, rfl⟩ := own_addr HPf.out (by omega)
            have hcv := (own_cells HPf.out).2 h (.int .i64 ((ends L (h + 1) : Nat) : Int)) (endVals_get L hlt)
            by_cases hle : ends L (h + 1) ≤ q
            · go_wp2
              go_round
              case rel => exact ⟨h + 1, by omega, by go_num, hle⟩
              case measure => simp [intOf]; omega
            · have HX2 : Hid (h < L.length → q < ends L (h + 1)) := fun _ => by omega
              have hsc := split_cut (fun l hl => ⟨(hv.out l hl).1, by have := (hv.out l hl).2; omega⟩) hh h1 HX2.out
              have r4 := Lib.hid (show (splitOf ((flat L).take q)).1 = L.take h from by rw [hsc])
              have r5 := Lib.hid (show ((splitOf ((flat L).take q)).2 : Int) = (ends L h : Int) from by rw [hsc])
              have r6 := Lib.hid (show h = (L.take h).length from by rw [List.length_take]; omega)
              clear hsc HX2
              cases h with
              | zero =>
                rw [ends_zero L] at r5
                have r5 := Lib.hid (show ((splitOf ((flat L).take q)).2 : Int) = 0 from r5.out)
                go_wp2_with (first
                  | (go_at_call 12; ((with_reducible refine (split_to T tc n (flat L) s1.out s2.out s3.out L L.length (n : Int) s4.out rfl s5.out _ HT3.out HY1.out).mono ?_); rintro e w6 ⟨X, xd, rfl, hx, _, _, hb6⟩; have HB6 := Lib.hid (later HB3.out hb6); have HT6 := Lib.hid (HT.out.below HB6.out HT.out.heap); have HY6 := Lib.hid (HY2.out.below hb6 (Nat.le_refl _)); have HX6 := Lib.hid hx; clear hx hb6))
                  | (go_at_call 12; ((with_reducible refine (split_to T tc q ((flat L).take q) r1.out r2.out r3.out (L.take 0) 0 0 r4.out r6.out r5.out _ HT6.out HY6.out).mono ?_); rintro e w7 ⟨Y, yd, rfl, hy, _, _, hb7⟩; have HB7 := Lib.hid (later HB6.out hb7); have HX7 := Lib.hid (HX6.out.below hb7 (Nat.le_refl _)); have HL7 := Lib.hid (HL.out.below HB7.out (Nat.le_refl _)); have HY7 := Lib.hid hy; clear hy hb7))
                  | (go_at_call 14; ((with_reducible refine (rows_same X A xd c L.length L.length L L rfl rfl rfl _ HX7.out HL7.out).mono ?_); rintro e w8 ⟨rfl, hb8⟩; have HB8 := Lib.hid (later HB7.out hb8); have HL8 := Lib.hid ((HL.out.below HB8.out (Nat.le_refl _)).take 0); have HY8 := Lib.hid (HY7.out.below hb8 (Nat.le_refl _)); clear hb8))
                  | (go_at_call 14; ((with_reducible refine (rows_same Y A yd c 0 0 (L.take 0) (L.take 0) r6.out r6.out rfl _ HY8.out HL8.out).mono ?_); rintro e w9 ⟨rfl, hb9⟩; have HB9 := Lib.hid (later HB8.out hb9); clear hb9)))
                go_ret
                exact ⟨rfl, HB9.out⟩
              | succ h' =>
                have hcu := (own_cells HPf.out).2 h' (.int .i64 ((ends L (h' + 1) : Nat) : Int)) (endVals_get L (by omega))
                have hgu := Lib.hid (World.block_lt_of_cell? _ _ hcu)
                go_wp2_with (first
                  | (go_at_call 12; ((with_reducible refine (split_to T tc n (flat L) s1.out s2.out s3.out L L.length (n : Int) s4.out rfl s5.out _ HT3.out HY1.out).mono ?_); rintro e w6 ⟨X, xd, rfl, hx, _, _, hb6⟩; have HB6 := Lib.hid (later HB3.out hb6); have HT6 := Lib.hid (HT.out.below HB6.out HT.out.heap); have HY6 := Lib.hid (HY2.out.below hb6 (Nat.le_refl _)); have HX6 := Lib.hid hx; have hb6s := Lib.hid hb6.size; have hcu6 := (hb6.cell (p := ⟨gv, h', none⟩) hgu.out).trans hcu; clear hx hb6))
                  | (go_at_call 12; ((with_reducible refine (split_to T tc q ((flat L).take q) r1.out r2.out r3.out (L.take (h' + 1)) (h' + 1) ((ends L (h' + 1) : Nat) : Int) r4.out r6.out r5.out _ HT6.out HY6.out).mono ?_); rintro e w7 ⟨Y, yd, rfl, hy, _, _, hb7⟩; have HB7 := Lib.hid (later HB6.out hb7); have HX7 := Lib.hid (HX6.out.below hb7 (Nat.le_refl _)); have HL7 := Lib.hid (HL.out.below HB7.out (Nat.le_refl _)); have HY7 := Lib.hid hy; have hcu7 := (hb7.cell (p := ⟨gv, h', none⟩) (Nat.lt_of_lt_of_le hgu.out hb6s.out)).trans hcu6; clear hcu6; clear hy hb7))
                  | (go_at_call 14; ((with_reducible refine (rows_same X A xd c L.length L.length L L rfl rfl rfl _ HX7.out HL7.out).mono ?_); rintro e w8 ⟨rfl, hb8⟩; have HB8 := Lib.hid (later HB7.out hb8); have HL8 := Lib.hid ((HL.out.below HB8.out (Nat.le_refl _)).take (h' + 1)); have HY8 := Lib.hid (HY7.out.below hb8 (Nat.le_refl _)); clear hb8))
                  | (go_at_call 14; ((with_reducible refine (rows_same Y A yd c (h' + 1) (h' + 1) (L.take (h' + 1)) (L.take (h' + 1)) r6.out r6.out rfl _ HY8.out HL8.out).mono ?_); rintro e w9 ⟨rfl, hb9⟩; have HB9 := Lib.hid (later HB8.out hb9); clear hb9)))
                go_ret
                exact ⟨rfl, HB9.out⟩
          · have HX2 : Hid (h < L.length → q < ends L (h + 1)) := fun g => by omega
            have hsc := split_cut (fun l hl => ⟨(hv.out l hl).1, by have := (hv.out l hl).2; omega⟩) hh h1 HX2.out
            have r4 := Lib.hid (show (splitOf ((flat L).take q)).1 = L.take h from by rw [hsc])
            have r5 := Lib.hid (show ((splitOf ((flat L).take q)).2 : Int) = (ends L h : Int) from by rw [hsc])
            have r6 := Lib.hid (show h = (L.take h).length from by rw [List.length_take]; omega)
            clear hsc HX2
            cases h with
            | zero =>
              rw [ends_zero L] at r5
              have r5 := Lib.hid (show ((splitOf ((flat L).take q)).2 : Int) = 0 from r5.out)
              go_wp2_with (first
                | (go_at_call 12; ((with_reducible refine (split_to T tc n (flat L) s1.out s2.out s3.out L L.length (n : Int) s4.out rfl s5.out _ HT3.out HY1.out).mono ?_); rintro e w6 ⟨X, xd, rfl, hx, _, _, hb6⟩; have HB6 := Lib.hid (later HB3.out hb6); have HT6 := Lib.hid (HT.out.below HB6.out HT.out.heap); have HY6 := Lib.hid (HY2.out.below hb6 (Nat.le_refl _)); have HX6 := Lib.hid hx; clear hx hb6))
                | (go_at_call 12; ((with_reducible refine (split_to T tc q ((flat L).take q) r1.out r2.out r3.out (L.take 0) 0 0 r4.out r6.out r5.out _ HT6.out HY6.out).mono ?_); rintro e w7 ⟨Y, yd, rfl, hy, _, _, hb7⟩; have HB7 := Lib.hid (later HB6.out hb7); have HX7 := Lib.hid (HX6.out.below hb7 (Nat.le_refl _)); have HL7 := Lib.hid (HL.out.below HB7.out (Nat.le_refl _)); have HY7 := Lib.hid hy; clear hy hb7))
                | (go_at_call 14; ((with_reducible refine (rows_same X A xd c L.length L.length L L rfl rfl rfl _ HX7.out HL7.out).mono ?_); rintro e w8 ⟨rfl, hb8⟩; have HB8 := Lib.hid (later HB7.out hb8); have HL8 := Lib.hid ((HL.out.below HB8.out (Nat.le_refl _)).take 0); have HY8 := Lib.hid (HY7.out.below hb8 (Nat.le_refl _)); clear hb8))
                | (go_at_call 14; ((with_reducible refine (rows_same Y A yd c 0 0 (L.take 0) (L.take 0) r6.out r6.out rfl _ HY8.out HL8.out).mono ?_); rintro e w9 ⟨rfl, hb9⟩; have HB9 := Lib.hid (later HB8.out hb9); clear hb9)))
              go_ret
              exact ⟨rfl, HB9.out⟩
            | succ h' =>
              obtain ⟨gu, rfl⟩ := own_addr HPf.out (by omega)
              have hcu := (own_cells HPf.out).2 h' (.int .i64 ((ends L (h' + 1) : Nat) : Int)) (endVals_get L (by omega))
              have hgu := Lib.hid (World.block_lt_of_cell? _ _ hcu)
              go_wp2_with (first
                | (go_at_call 12; ((with_reducible refine (split_to T tc n (flat L) s1.out s2.out s3.out L L.length (n : Int) s4.out rfl s5.out _ HT3.out HY1.out).mono ?_); rintro e w6 ⟨X, xd, rfl, hx, _, _, hb6⟩; have HB6 := Lib.hid (later HB3.out hb6); have HT6 := Lib.hid (HT.out.below HB6.out HT.out.heap); have HY6 := Lib.hid (HY2.out.below hb6 (Nat.le_refl _)); have HX6 := Lib.hid hx; have hb6s := Lib.hid hb6.size; have hcu6 := (hb6.cell (p := ⟨gu, h', none⟩) hgu.out).trans hcu; clear hx hb6))
                | (go_at_call 12; ((with_reducible refine (split_to T tc q ((flat L).take q) r1.out r2.out r3.out (L.take (h' + 1)) (h' + 1) ((ends L (h' + 1) : Nat) : Int) r4.out r6.out r5.out _ HT6.out HY6.out).mono ?_); rintro e w7 ⟨Y, yd, rfl, hy, _, _, hb7⟩; have HB7 := Lib.hid (later HB6.out hb7); have HX7 := Lib.hid (HX6.out.below hb7 (Nat.le_refl _)); have HL7 := Lib.hid (HL.out.below HB7.out (Nat.le_refl _)); have HY7 := Lib.hid hy; have hcu7 := (hb7.cell (p := ⟨gu, h', none⟩) (Nat.lt_of_lt_of_le hgu.out hb6s.out)).trans hcu6; clear hcu6; clear hy hb7))
                | (go_at_call 14; ((with_reducible refine (rows_same X A xd c L.length L.length L L rfl rfl rfl _ HX7.out HL7.out).mono ?_); rintro e w8 ⟨rfl, hb8⟩; have HB8 := Lib.hid (later HB7.out hb8); have HL8 := Lib.hid ((HL.out.below HB8.out (Nat.le_refl _)).take (h' + 1)); have HY8 := Lib.hid (HY7.out.below hb8 (Nat.le_refl _)); clear hb8))
                | (go_at_call 14; ((with_reducible refine (rows_same Y A yd c (h' + 1) (h' + 1) (L.take (h' + 1)) (L.take (h' + 1)) r6.out r6.out rfl _ HY8.out HL8.out).mono ?_); rintro e w9 ⟨rfl, hb9⟩; have HB9 := Lib.hid (later HB8.out hb9); clear hb9)))
              go_ret
              exact ⟨rfl, HB9.out⟩
end Go.Proofs.YtlbaedgmbdljpaaDoor
