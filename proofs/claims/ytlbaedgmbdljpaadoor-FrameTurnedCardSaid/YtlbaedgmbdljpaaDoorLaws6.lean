/- The walk through the statement FrameTurned. -/
import Derived.Test.YtlbaedgmbdljpaaDoorLaws5
namespace Go.Proofs.YtlbaedgmbdljpaaDoor
open Go.RowKit Aid

/-- One byte that is another changes the check. -/
theorem sum_one {p q : List Int} {x y : Int} (hx : 0 ≤ x ∧ x < 256) (hy : 0 ≤ y ∧ y < 256) (h : N (sum (p ++ x :: q)) = N (sum (p ++ y :: q))) : x = y := by
  have e := (Plain.more_run _ _ _ _).1 (N_inj h)
  simp only [List.map_append, List.map_cons] at e
  have m := Plain.run_mid (~~~ (0#32)) (p.map W) [W x] [W y] (q.map W)
  simp only [List.append_assoc, List.cons_append, List.nil_append] at m
  have e2 := m.1 e
  generalize Plain.run (~~~ (0#32)) (p.map W) = S at e2
  have e3 : S ^^^ W x = S ^^^ W y := Plain.eight_inj e2
  have e4 : W x = W y := by
    have := congrArg (S ^^^ ·) e3
    simpa [← BitVec.xor_assoc] using this
  rw [← N_W hx.1 (by omega), ← N_W hy.1 (by omega), e4]
theorem parts (b rest : List Int) : frame b ++ rest = bytesOf (b.length : Int) 2 ++ (bytesOf (N (sum b)) 4 ++ (b ++ rest)) := by
  unfold frame heads; simp only [List.append_assoc]
/-- A frame one byte of whose sum or bytes is another is no frame. -/
theorem not_turned {b : List Int} {r : Nat} {y : Int} (hb : ∀ n ∈ b, 0 ≤ n ∧ n < 256) (h1 : b.length ≤ 65535) (hr2 : 2 ≤ r) (hr : r < b.length + 6) (hy : 0 ≤ y ∧ y < 256) (hne : y ≠ (frame b).getD r 0) (rest : List Int) :
    ¬ Fits ((frame b).set r y ++ rest) := fun f => by
  have l2 : (bytesOf (b.length : Int) 2).length = 2 := by simp [bytesOf]
  have l4 : (bytesOf (N (sum b)) 4).length = 4 := by simp [bytesOf]
  have ef : frame b = bytesOf (b.length : Int) 2 ++ (bytesOf (N (sum b)) 4 ++ b) := by have := parts b []; simpa using this
  have eg : (frame b).getD r 0 = (bytesOf (N (sum b)) 4 ++ b).getD (r - 2) 0 := by
    rw [ef, List.getD_eq_getElem?_getD, List.getElem?_append_right (by omega), l2, ← List.getD_eq_getElem?_getD]
  have hsz : ∀ m : List Int, m.length = 4 → ∀ d : List Int, d.length = b.length → Fits (bytesOf (b.length : Int) 2 ++ (m ++ (d ++ rest))) → N (sum d) = num m := fun m hm d hd g => by
    have es : size2 (bytesOf (b.length : Int) 2 ++ (m ++ (d ++ rest))) = b.length := by unfold size2; rw [List.take_left' l2, num_bytes2 _ (by omega) (by omega)]; omega
    have eb : body (bytesOf (b.length : Int) 2 ++ (m ++ (d ++ rest))) = d := by
      unfold body
      rw [es, ← List.append_assoc, List.drop_left' (by rw [List.length_append]; omega), List.take_left' hd]
    have := g.2.2.2
    rwa [eb, List.drop_left' l2, List.take_left' hm] at this
  by_cases h6 : r < 6
  · have e : (frame b).set r y ++ rest = bytesOf (b.length : Int) 2 ++ ((bytesOf (N (sum b)) 4).set (r - 2) y ++ (b ++ rest)) := by
      rw [ef, List.set_append_right _ _ (by omega), l2, List.set_append_left _ _ (by omega)]
      simp only [List.append_assoc]
    rw [e] at f
    have h := hsz _ (by rw [List.length_set, l4]) b rfl f
    have hbb : ∀ n ∈ (bytesOf (N (sum b)) 4).set (r - 2) y, 0 ≤ n ∧ n < 256 := fun n hn => by
      rcases List.mem_or_eq_of_mem_set hn with hn | rfl
      · exact bytesOf_bounds _ _ n hn
      · exact hy
    have h4 := bytes4_num _ (by rw [List.length_set, l4]) hbb
    rw [← h] at h4
    refine hne ?_
    rw [eg, List.getD_eq_getElem?_getD, List.getElem?_append_left (by omega), h4, List.getElem?_set_self (by omega)]
    rfl
  · have e : (frame b).set r y ++ rest = bytesOf (b.length : Int) 2 ++ (bytesOf (N (sum b)) 4 ++ (b.set (r - 6) y ++ rest)) := by
      rw [ef, List.set_append_right _ _ (by omega), l2, List.set_append_right _ _ (by omega), l4, show r - 2 - 4 = r - 6 from by omega]
      simp only [List.append_assoc]
    rw [e] at f
    have h := hsz _ l4 _ (by rw [List.length_set]) f
    rw [num_bytes4 _ (N_nonneg _) (N_lt _)] at h
    have hlt : r - 6 < b.length := by omega
    have eb : b = b.take (r - 6) ++ b[r - 6] :: b.drop (r - 6 + 1) := by rw [← List.drop_eq_getElem_cons hlt, List.take_append_drop]
    have es : b.set (r - 6) y = b.take (r - 6) ++ y :: b.drop (r - 6 + 1) := by rw [List.set_eq_take_append_cons_drop, if_pos hlt]
    rw [es] at h
    conv at h => rhs; rw [eb]
    have := sum_one hy (hb _ (List.getElem_mem hlt)) h
    refine hne ?_
    rw [eg, List.getD_eq_getElem?_getD, List.getElem?_append_right (by omega), l4, show r - 2 - 4 = r - 6 from by omega, List.getElem?_eq_getElem hlt, this]
    rfl
theorem split_turned {L : List (List Int)} {k r : Nat} {y : Int} (hv : ∀ l ∈ L, 1 ≤ l.length ∧ l.length ≤ 65535) (hL : ∀ l ∈ L, ∀ n ∈ l, 0 ≤ n ∧ n < 256) (hk : k < L.length) (hr2 : 2 ≤ r) (hr : r < (L.getD k []).length + 6) (hy : 0 ≤ y ∧ y < 256)
    (hne : y ≠ (flat L).getD (ends L k + r) 0) : splitOf ((flat L).set (ends L k + r) y) = (L.take k, ends L k) := by
  have hm : L.getD k [] ∈ L := by rw [List.getD_eq_getElem?_getD, List.getElem?_eq_getElem hk]; exact List.getElem_mem hk
  have e0 : flat L = flat (L.take k) ++ (frame (L.getD k []) ++ flat (L.drop (k + 1))) := by
    have hd : L.drop k = L.getD k [] :: L.drop (k + 1) := by
      rw [List.drop_eq_getElem_cons hk, List.getD_eq_getElem?_getD, List.getElem?_eq_getElem hk]; rfl
    rw [← flat_cons, ← hd, ← flat_append, List.take_append_drop]
  have el := ends_flat L k
  have fl := frame_length (L.getD k [])
  rw [e0] at hne ⊢
  rw [List.getD_eq_getElem?_getD, List.getElem?_append_right (by omega), el, Nat.add_sub_cancel_left, List.getElem?_append_left (by omega), ← List.getD_eq_getElem?_getD] at hne
  rw [List.set_append_right _ _ (by omega), el, Nat.add_sub_cancel_left, List.set_append_left _ _ (by omega), split_flat _ _ (fun l hl => hv l (List.mem_of_mem_take hl)), splitOf_stop (not_turned (hL _ hm) (hv _ hm).2 hr2 hr hy hne _), el]
  simp
theorem xor_bit {x m : Int} (hx : 0 ≤ x ∧ x < 256) (hm : 0 < m ∧ m < 256) : (0 ≤ bits .xor .u8 x m ∧ bits .xor .u8 x m < 256) ∧ bits .xor .u8 x m ≠ x := by
  rw [u8_xor x m hx.1 hx.2 (by omega) hm.2]
  have hlt : x.toNat ^^^ m.toNat < 2 ^ 8 := Nat.xor_lt_two_pow (by omega) (by omega)
  refine ⟨⟨by omega, by omega⟩, fun h => ?_⟩
  have h1 : x.toNat ^^^ m.toNat = x.toNat := by omega
  have h2 : m.toNat = 0 := by
    have := congrArg (x.toNat ^^^ ·) h1
    simpa [← Nat.xor_assoc] using this
  omega

/-- Where the byte lies that is turned, once its frame is laid. -/
def spot (P k0 k : Nat) : Int := if k0 < k then (P : Int) else 0
theorem spot_zero (P k0 : Nat) : spot P k0 0 = 0 := if_neg (by omega)
theorem spot_same {P k0 k : Nat} (h : k ≠ k0) : spot P k0 (k + 1) = spot P k0 k := by
  unfold spot
  by_cases hk : k0 < k
  · rw [if_pos hk, if_pos (by omega)]
  · rw [if_neg hk, if_neg (by omega)]
theorem spot_at (P k0 : Nat) : spot P k0 (k0 + 1) = P := if_pos (by omega)
theorem spot_all {P k0 n : Nat} (h : k0 < n) : spot P k0 n = P := if_pos h
attribute [irreducible] spot
set_option maxRecDepth 100000 in
set_option maxHeartbeats 4000000 in
theorem turned_walk (A : Option Addr) (c : Nat) (L : List (List Int)) (x : Int) (x0 : 0 ≤ x) (x1 : x < 65536) (z : Int) (z0 : 0 ≤ z) (z1 : z < 256) (w : World) (ht : Tab w) (hl : Rws w A L) (hc : L.length ≤ c) (_hC : c ≤ 9223372036854775807) :
    Calls Tryd.prog 5 #[.slice A L.length c, .int .u16 x, .int .u8 z] w fun e w' => e = .returned (.bool true) ∧ Below w.heap.size w w' := by
  have HT := Lib.hid ht
  have HL := Lib.hid hl
  clear ht hl
  by_cases g1 : L.length < 1
  · go_enter Tryd.func5, Tryd.ntmps5
    go_wp2_with (go_at_call 9; refine (shown_any _ HT.out).mono ?_; rintro e w1 ⟨rfl, hb⟩)
    go_ret
    exact ⟨rfl, hb⟩
  by_cases g2 : 8 < L.length
  · go_enter Tryd.func5, Tryd.ntmps5
    go_wp2_with (go_at_call 9; refine (shown_any _ HT.out).mono ?_; rintro e w1 ⟨rfl, hb⟩)
    go_ret
    exact ⟨rfl, hb⟩
  · obtain ⟨i0, hi0, hz0, hz1, hz2⟩ := info_parts byte_info
    obtain ⟨k0, hk0, hk0n⟩ : ∃ k0 : Nat, x % (L.length : Int) = (k0 : Int) ∧ k0 < L.length := by
      have h1 := Int.emod_nonneg x (show (L.length : Int) ≠ 0 by omega)
      have h2 := Int.emod_lt_of_pos x (show 0 < (L.length : Int) by omega)
      exact ⟨(x % (L.length : Int)).toNat, by omega, by omega⟩
    obtain ⟨m, hm⟩ : ∃ m : Nat, (L.getD k0 []).length = m := ⟨_, rfl⟩
    obtain ⟨r, hr, hrm⟩ : ∃ r : Nat, z / 8 % ((m : Int) + 4) = (r : Int) ∧ r < m + 4 := by
      have h1 := Int.emod_nonneg (z / 8) (show ((m : Int) + 4) ≠ 0 by omega)
      have h2 := Int.emod_lt_of_pos (z / 8) (show 0 < (m : Int) + 4 by omega)
      exact ⟨(z / 8 % ((m : Int) + 4)).toNat, by omega, by omega⟩
    have HR := Lib.hid hr
    have HM := Lib.hid hm
    clear hr hm
    go_enter Tryd.func5, Tryd.ntmps5
    go_wp2_with (go_at_call 9; ((with_reducible refine (shown_any _ HT.out).mono ?_); rintro e w1 ⟨rfl, hb1⟩; have HB1 := Lib.hid hb1; clear hb1))
    rw [hk0]
    go_loopw [9, 10, 11] (fun v p i wr => ∃ k : Nat, k ≤ L.length ∧ i = .int .i64 k ∧ p = .int .i64 (spot (ends L k0 + (2 + r)) k0 k) ∧ Good L 60 k ∧ wr.ownsRow w1.heap.size 5 1 v (ends L k) ((flat (L.take k)).map (Value.int .u8)) ∧ Below w1.heap.size w1 wr) (fun _ _ i _ => L.length - (intOf i).toNat)
    case atStart => exact ⟨0, Nat.zero_le _, rfl, by rw [spot_zero], fun j hj => (by omega), by rw [ends_zero]; exact World.ownsRow_nil _ _ _ _, Below.refl _ _⟩
    case round =>
      obtain ⟨k, hk, rfl, rfl, hg, ho, hb⟩ := hrel
      have HBr := Lib.hid hb
      have HB3 := Lib.hid (later HB1.out hb)
      have HT3 := Lib.hid (HT.out.below HB3.out HT.out.heap)
      obtain ⟨T, tc, hT⟩ := own_any ho
      subst hT
      have HOr := Lib.hid ho
      have HG := Lib.hid hg
      clear ho hb hg
      by_cases hlt : k < L.length
      · obtain ⟨b, off, hX, hcs⟩ := (HL.out.below HB3.out (Nat.le_refl _)).2 (by omega)
        obtain ⟨Ai, ci, _, _, hcell, hby⟩ := hcs k hlt
        subst hX
        have hblk := Lib.hid (World.block_lt_of_cell? _ _ hcell)
        have hN := Lib.hid (flat_next L k hlt)
        have hEn := Lib.hid (ends_next hlt)
        have hgk := Lib.hid (show 1 ≤ (L.getD k []).length → (L.getD k []).length ≤ 60 → Good L 60 (k + 1) from fun g1 g2 j hj => by
          rcases Nat.lt_or_ge j k with h | h
          · exact HG.out j h
          · obtain rfl : j = k := by omega
            exact ⟨g1, g2⟩)
        have HY := Lib.hid hby
        have hmk := Lib.hid (show k = k0 → (L.getD k []).length = m from fun h => by rw [h]; exact HM.out)
        generalize L.getD k [] = y at hcell HY hN hEn hgk hmk
        clear hcs hby
        by_cases e1 : y.length < 1
        · go_wp2
          go_ret
          exact ⟨rfl, HB3.out⟩
        by_cases e2 : 60 < y.length
        · go_wp2
          go_ret
          exact ⟨rfl, HB3.out⟩
        have p1 := Lib.hid (show 0 < y.length from by omega)
        have p2 := Lib.hid (show y.length ≤ 65535 from by omega)
        have hG1 := Lib.hid (hgk.out (by omega) (by omega))
        have hbd := Lib.hid (HG.out.bound hk)
        have m1 : ends L k + (y.length + 6) ≤ maxLen := by unfold maxLen; have := hbd.out; omega
        have k1 : (ends L k + (y.length + 6)) * 1 ≤ 140737488355328 := by have := hbd.out; omega
        have hek : ends L k ≤ 8 * 66 := by have := hbd.out; have : k * (60 + 6) ≤ 8 * 66 := Nat.mul_le_mul_right 66 (by omega); omega
        have l1 := Lib.hid (show ((frame y).map (Value.int .u8)).length = (y.length + 6) * 1 from by rw [List.length_map, frame_length]; omega)
        clear hgk
        by_cases hkk : k = k0
        · have hym := hmk.out hkk
          subst hkk
          subst hym
          have hrr : z / 8 % ((y.length : Int) + 4) = (r : Int) := HR.out
          clear hmk
          go_wp2_with (first
            | (go_at_call 10; ((with_reducible refine (put_at Ai ci y.length y rfl _ HT3.out HY.out p1.out p2.out).mono ?_); rintro e w4 ⟨g, pd, rfl, _, _, ho4, hb4⟩; have HO4 := Lib.hid (own_sl ho4); have HB4 := Lib.hid (later HBr.out hb4); have HR4 := Lib.hid (row_below HOr.out hb4 (Nat.le_refl _)); have hc4 := (hb4.cell (p := ⟨b, off + k, none⟩) hblk.out).trans hcell; clear ho4 hb4))
            | (at_builtin
               refine wpList_append_sl _ rfl (.tmp 88) (.tmp 89) 22 rfl w1.heap.size 5 i0 _ 1 1 Tryd.underlying22 hi0 hz0 hz1 hz2 rfl Nat.one_pos _ (ends L k) _ rfl HR4.out (some ⟨g, 0, none⟩) (y.length + 6) pd ((frame y).map (Value.int .u8)) rfl l1.out HO4.out (ints_one _ _) m1 k1 HB4.out.size (ends L k + (y.length + 6)) rfl ?_
               intro A5 c5 w5 hown5 hb5 _ _
               have HO5 := Lib.hid hown5
               have HB5 := Lib.hid (HB4.out.trans hb5)
               clear hown5 hb5))
          go_roundw
          case rel => exact ⟨k + 1, by omega, by go_num, by rw [spot_at]; push_cast; congr 1; omega, hG1.out, by rw [hN.out, hEn.out, List.map_append]; exact HO5.out, HB5.out⟩
          case measure => simp [intOf]; omega
        · have hne : ((k : Int) == (k0 : Int)) = false := by simp; omega
          have hsp := Lib.hid (spot_same (P := ends L k0 + (2 + r)) hkk)
          clear hmk
          go_wp2_with (first
            | (go_at_call 10; ((with_reducible refine (put_at Ai ci y.length y rfl _ HT3.out HY.out p1.out p2.out).mono ?_); rintro e w4 ⟨g, pd, rfl, _, _, ho4, hb4⟩; have HO4 := Lib.hid (own_sl ho4); have HB4 := Lib.hid (later HBr.out hb4); have HR4 := Lib.hid (row_below HOr.out hb4 (Nat.le_refl _)); have hc4 := (hb4.cell (p := ⟨b, off + k, none⟩) hblk.out).trans hcell; clear ho4 hb4))
            | (at_builtin
               refine wpList_append_sl _ rfl (.tmp 88) (.tmp 89) 22 rfl w1.heap.size 5 i0 _ 1 1 Tryd.underlying22 hi0 hz0 hz1 hz2 rfl Nat.one_pos _ (ends L k) _ rfl HR4.out (some ⟨g, 0, none⟩) (y.length + 6) pd ((frame y).map (Value.int .u8)) rfl l1.out HO4.out (ints_one _ _) m1 k1 HB4.out.size (ends L k + (y.length + 6)) rfl ?_
               intro A5 c5 w5 hown5 hb5 _ _
               have HO5 := Lib.hid hown5
               have HB5 := Lib.hid (HB4.out.trans hb5)
               clear hown5 hb5))
          go_roundw
          case rel => exact ⟨k + 1, by omega, by go_num, by rw [hsp.out], hG1.out, by rw [hN.out, hEn.out, List.map_append]; exact HO5.out, HB5.out⟩
          case measure => simp [intOf]; omega
      · have hkl : k = L.length := by omega
        subst hkl
        have hbd := HG.out.bound hk
        have e0 : ends L L.length = (flat L).length := ends_all L
        have HF := Lib.hid (show wr.ownsRow w1.heap.size 5 1 (.slice T (flat L).length tc) (flat L).length ((flat L).map (Value.int .u8)) from by have := HOr.out; rw [e0, List.take_length] at this; exact this)
        rw [e0] at hbd ⊢
        rw [spot_all hk0n]
        have hv := Lib.hid (show ∀ l ∈ L, 1 ≤ l.length ∧ l.length ≤ 60 from fun l hl => by
          obtain ⟨j, hj, rfl⟩ := List.getElem_of_mem hl
          have := HG.out j (by omega)
          rwa [List.getD_eq_getElem?_getD, List.getElem?_eq_getElem hj] at this)
        have hLb : ∀ l ∈ L, ∀ z ∈ l, 0 ≤ z ∧ z < 256 := fun l hl => by
          obtain ⟨j, hj, rfl⟩ := List.getElem_of_mem hl
          obtain ⟨_, _, _, hcs⟩ := HL.out.2 (by omega)
          obtain ⟨_, _, _, _, _, hby⟩ := hcs j hj
          have := hby.2.1
          rwa [List.getD_eq_getElem?_getD, List.getElem?_eq_getElem hj] at this
        have hfb := flat_bounds hLb
        have hend : ends L k0 + (2 + r) < (flat L).length := by
          have h1 := ends_next hk0n
          rw [HM.out] at h1
          have h2 : ends L (k0 + 1) ≤ (flat L).length := by rw [← ends_flat]; exact flat_prefix L (k0 + 1)
          omega
        obtain ⟨P, hP⟩ : ∃ P, ends L k0 + (2 + r) = P := ⟨_, rfl⟩
        obtain ⟨n, hn⟩ : ∃ n, (flat L).length = n := ⟨_, rfl⟩
        have HP := Lib.hid hP
        have HNn := Lib.hid hn
        have hn1 : n ≤ 8 * 66 := by have : L.length * (60 + 6) ≤ 8 * 66 := Nat.mul_le_mul_right 66 (by omega); omega
        rw [hP] at hend ⊢
        rw [hn] at hend ⊢
        have HFn := Lib.hid (show wr.ownsRow w1.heap.size 5 1 (.slice T n tc) n ((flat L).map (Value.int .u8)) from by have := HF.out; rwa [hn] at this)
        obtain ⟨gu, rfl⟩ := own_addr HFn.out (by omega)
        have hcell : wr.cell? ⟨gu, P, none⟩ = some (.int .u8 ((flat L).getD P 0)) := (own_cells HFn.out).2 P _ (by rw [List.getElem?_map, List.getElem?_eq_getElem (by omega), List.getD_eq_getElem?_getD, List.getElem?_eq_getElem (by omega)]; rfl)
        have hfro := HFn.out.frozenAt P
        have HGB := Lib.hid (own_cells HFn.out).1
        have hx0 := hfb _ (getD_mem (l := flat L) (k := P) (by omega))
        have HXe : Hid (∃ v, (flat L).getD P 0 = v) := ⟨_, rfl⟩
        generalize hgx : (flat L).getD P 0 = v at hcell hx0
        have HGX := Lib.hid hgx
        have HLB := Lib.hid hLb
        clear hgx HXe hLb hfb hbd e0 hP hn hlt hk
        have hm8 : 0 < (2 : Int) ^ (z % 8).toNat % 256 ∧ (2 : Int) ^ (z % 8).toNat % 256 < 256 := by
          have : (z % 8).toNat = 0 ∨ (z % 8).toNat = 1 ∨ (z % 8).toNat = 2 ∨ (z % 8).toNat = 3 ∨ (z % 8).toNat = 4 ∨ (z % 8).toNat = 5 ∨ (z % 8).toNat = 6 ∨ (z % 8).toNat = 7 := by omega
          rcases this with e | e | e | e | e | e | e | e <;> rw [e] <;> decide
        have hX := Lib.hid (xor_bit hx0 hm8)
        have hrow := Lib.hid ((HFn.out.stored P (.int .u8 (bits .xor .u8 v ((2 : Int) ^ (z % 8).toNat % 256)))).1)
        have hB2 := Lib.hid (HB3.out.setCell (p := ⟨gu, P, none⟩) (Nat.le_trans HB1.out.size HGB.out) (.int .u8 (bits .xor .u8 v ((2 : Int) ^ (z % 8).toNat % 256))))
        have HT5 := Lib.hid (HT.out.below hB2.out HT.out.heap)
        have hsc := Lib.hid (split_turned (k := k0) (r := 2 + r) (y := bits .xor .u8 v ((2 : Int) ^ (z % 8).toNat % 256)) (fun l hl => ⟨(hv.out l hl).1, by have := (hv.out l hl).2; omega⟩) HLB.out hk0n (by omega) (by rw [HM.out]; omega) hX.out.1 (by rw [HP.out, HGX.out]; exact hX.out.2))
        have hsl : ((flat L).set P (bits .xor .u8 v ((2 : Int) ^ (z % 8).toNat % 256))).length = n := by rw [List.length_set, HNn.out]
        have HY5 : Hid (Bytes (wr.setCell ⟨gu, P, none⟩ (.int .u8 (bits .xor .u8 v ((2 : Int) ^ (z % 8).toNat % 256)))) (some ⟨gu, 0, none⟩) ((flat L).set P (bits .xor .u8 v ((2 : Int) ^ (z % 8).toNat % 256)))) :=
          Bytes.of_sl (by rw [List.map_set]; exact own_sl hrow.out) (by rw [hsl]; omega) (fun q hq => by
            rcases List.mem_or_eq_of_mem_set hq with hq | rfl
            · exact flat_bounds HLB.out q hq
            · exact hX.out.1)
        have s1 := Lib.hid hsl.symm
        have s2 := Lib.hid (show ((flat L).set P (bits .xor .u8 v ((2 : Int) ^ (z % 8).toNat % 256))).length ≤ tc from by rw [hsl]; exact (own_cap HFn.out).1)
        have s3 := Lib.hid (show ((flat L).set P (bits .xor .u8 v ((2 : Int) ^ (z % 8).toNat % 256))).length ≤ 100000 from by rw [hsl]; omega)
        have s4 := Lib.hid (show (splitOf ((flat L).set P (bits .xor .u8 v ((2 : Int) ^ (z % 8).toNat % 256)))).1 = L.take k0 from by rw [← HP.out, hsc.out])
        have s5 := Lib.hid (show ((splitOf ((flat L).set P (bits .xor .u8 v ((2 : Int) ^ (z % 8).toNat % 256)))).2 : Int) = ((ends L k0 : Nat) : Int) from by rw [← HP.out, hsc.out])
        have s6 := Lib.hid (show k0 = (L.take k0).length from by rw [List.length_take]; omega)
        clear hm8 hx0 hsl
        go_wp2_with (go_at_call 12; ((with_reducible refine (split_to (some ⟨gu, 0, none⟩) tc n _ s1.out s2.out s3.out (L.take k0) k0 ((ends L k0 : Nat) : Int) s4.out s6.out s5.out _ HT5.out HY5.out).mono ?_); rintro e w6 ⟨X, xd, rfl, hx6, _, _, hb6⟩; have HB6 := Lib.hid (later hB2.out hb6); have HX6 := Lib.hid hx6; clear hx6 hb6))
        go_loop [16, 17] (fun s i => ∃ h : Nat, h ≤ k0 ∧ i = .int .i64 h ∧ s = .int .i64 ((ends L h : Nat) : Int)) (fun _ i => k0 - (intOf i).toNat)
        case atStart => exact ⟨0, Nat.zero_le _, rfl, by rw [ends_zero]; rfl⟩
        case round =>
          obtain ⟨h, hh, rfl, rfl⟩ := hrel
          by_cases hlt : h < k0
          · obtain ⟨b, off, hX', hcs⟩ := (HL.out.below HB6.out (Nat.le_refl _)).2 (by omega)
            obtain ⟨Ai, ci, _, _, hcell6, _⟩ := hcs h (by omega)
            subst hX'
            have hEn := Lib.hid (ends_next (L := L) (j := h) (by omega))
            have hle : ends L h ≤ 8 * 66 := by
              have h1 : ends L h ≤ (flat L).length := by rw [← ends_flat]; exact flat_prefix L h
              rw [HNn.out] at h1; omega
            have hyl := (hv.out (L.getD h []) (by rw [List.getD_eq_getElem?_getD, List.getElem?_eq_getElem (by omega)]; exact List.getElem_mem (by omega))).2
            generalize L.getD h [] = y at hcell6 hEn hyl
            have hE := Lib.hid (show ((ends L h : Nat) : Int) + (y.length : Int) + 6 = ((ends L (h + 1) : Nat) : Int) from by have := hEn.out; omega)
            clear hcs
            go_wp2
            go_round
            case rel => exact ⟨h + 1, by omega, by go_num, by rw [hE.out]⟩
            case measure => simp [intOf]; omega
          · obtain rfl : h = k0 := by omega
            have HL6 := Lib.hid ((HL.out.below HB6.out (Nat.le_refl _)).take h)
            have hkc : (h : Int) ≤ (c : Int) := by omega
            go_wp2_with (go_at_call 14; ((with_reducible refine (rows_same X A xd c h h (L.take h) (L.take h) s6.out s6.out rfl _ HX6.out HL6.out).mono ?_); rintro e w9 ⟨rfl, hb9⟩; have HB9 := Lib.hid (later HB6.out hb9); clear hb9))
            go_ret
            exact ⟨rfl, HB9.out⟩
end Go.Proofs.YtlbaedgmbdljpaaDoor
