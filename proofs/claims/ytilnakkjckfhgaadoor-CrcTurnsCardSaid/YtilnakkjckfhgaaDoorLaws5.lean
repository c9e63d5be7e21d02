/- The walk through the statement CrcBurst. -/
import Derived.Test.YtilnakkjckfhgaaDoorLaws4
import Derived.ChangeAlike
import Derived.BigRegion
namespace Go.Proofs.YtilnakkjckfhgaaDoor
open Go.RowKit Aid

/-- The j-th byte of a word. -/
def byteOf (t : Int) : Nat → Int
  | 0 => t % 256
  | 1 => t / 256 % 256
  | 2 => t / 65536 % 256
  | _ => t / 16777216
/-- Turned at the first j of four places. -/
def turned (l : List Int) (k : Nat) (t : Int) : Nat → List Int
  | 0 => l
  | j + 1 => (turned l k t j).set (k + j) (bits .xor .u8 ((turned l k t j).getD (k + j) 0) (byteOf t j))

theorem turned_length (l : List Int) (k : Nat) (t : Int) (j : Nat) : (turned l k t j).length = l.length := by
  induction j with
  | zero => rfl
  | succ j ih => simp only [turned, List.length_set, ih]

theorem turned_step {w : World} {base g n c k j : Nat} {l : List Int} {t x : Int} (h : w.ownsRow base 5 1 (.slice (some ⟨g, 0, none⟩) n c) n ((turned l k t j).map (Value.int .u8))) (hx : (turned l k t j).getD (k + j) 0 = x) :
    (w.setCell ⟨g, k + j, none⟩ (.int .u8 (bits .xor .u8 x (byteOf t j)))).drew.ownsRow base 5 1 (.slice (some ⟨g, 0, none⟩) n c) n ((turned l k t (j + 1)).map (Value.int .u8)) := by
  have := (h.stored (k + j) (.int .u8 (bits .xor .u8 x (byteOf t j)))).1
  rw [turned, hx, List.map_set]; exact this

theorem and255 (s : BitVec 32) : s &&& 255#32 = BitVec.ofNat 32 (s.toNat % 256) := by
  apply BitVec.eq_of_toNat_eq
  rw [BitVec.toNat_and]
  have e : (255#32).toNat = 2 ^ 8 - 1 := by decide
  rw [e, Nat.and_two_pow_sub_one_eq_mod, BitVec.toNat_ofNat]
  have : s.toNat % 2 ^ 8 < 2 ^ 32 := Nat.lt_of_lt_of_le (Nat.mod_lt _ (by omega)) (by omega)
  omega
theorem W_byte {t : Int} (h0 : 0 ≤ t) (h1 : t < 4294967296) (j : Nat) (hj : j < 4) : W (byteOf t j) = (W t >>> (8 * j)) &&& 255#32 := by
  rw [and255, BitVec.toNat_ushiftRight, Nat.shiftRight_eq_div_pow]
  have e : (W t).toNat = t.toNat := by unfold W; rw [BitVec.toNat_ofNat, Nat.mod_eq_of_lt (by omega)]
  rw [e]
  unfold W
  congr 1
  obtain rfl | rfl | rfl | rfl : j = 0 ∨ j = 1 ∨ j = 2 ∨ j = 3 := by omega
  all_goals simp only [byteOf]; omega
theorem byteOf_range {t : Int} (h0 : 0 ≤ t) (h1 : t < 4294967296) (j : Nat) : 0 ≤ byteOf t j ∧ byteOf t j < 256 := by
  unfold byteOf; split <;> omega
theorem xor8 {x y : Int} (hx : 0 ≤ x ∧ x < 256) (hy : 0 ≤ y ∧ y < 256) : (0 ≤ bits .xor .u8 x y ∧ bits .xor .u8 x y < 256) ∧ W (bits .xor .u8 x y) = W x ^^^ W y := by
  rw [u8_xor x y hx.1 hx.2 hy.1 hy.2]
  have hlt : x.toNat ^^^ y.toNat < 2 ^ 8 := Nat.xor_lt_two_pow (by omega) (by omega)
  refine ⟨⟨by omega, by omega⟩, ?_⟩
  apply BitVec.eq_of_toNat_eq
  unfold W
  rw [BitVec.toNat_xor, BitVec.toNat_ofNat, BitVec.toNat_ofNat, BitVec.toNat_ofNat, Int.toNat_natCast, Nat.mod_eq_of_lt (by omega), Nat.mod_eq_of_lt (by omega), Nat.mod_eq_of_lt (by omega)]
theorem turned_range {l : List Int} {k : Nat} {t : Int} (hl : ∀ n ∈ l, 0 ≤ n ∧ n < 256) (h0 : 0 ≤ t) (h1 : t < 4294967296) (hk : k + 3 < l.length) : ∀ j, j ≤ 4 → ∀ n ∈ turned l k t j, 0 ≤ n ∧ n < 256
  | 0, _ => hl
  | j + 1, hj => fun n hn => by
    have ih := turned_range hl h0 h1 hk j (by omega)
    rcases List.mem_or_eq_of_mem_set hn with hn | rfl
    · exact ih n hn
    · exact (xor8 (ih _ (getD_mem (by rw [turned_length]; omega))) (byteOf_range h0 h1 j)).1
theorem split_four {l : List Int} {k : Nat} (h : k + 3 < l.length) : ∃ (p q : List Int) (x0 x1 x2 x3 : Int), l = p ++ x0 :: x1 :: x2 :: x3 :: q ∧ p.length = k := by
  refine ⟨l.take k, l.drop (k + 4), l[k], l[k + 1], l[k + 2], l[k + 3], ?_, by rw [List.length_take]; omega⟩
  rw [← List.drop_eq_getElem_cons h, ← List.drop_eq_getElem_cons (i := k + 2) (by omega), ← List.drop_eq_getElem_cons (i := k + 1) (by omega), ← List.drop_eq_getElem_cons (i := k) (by omega), List.take_append_drop]
theorem set_at (p q : List Int) (x y : Int) (i : Nat) (hi : i = p.length) : (p ++ x :: q).set i y = p ++ y :: q := by subst hi; simp
theorem get_at (p q : List Int) (x : Int) (i : Nat) (hi : i = p.length) : (p ++ x :: q).getD i 0 = x := by subst hi; simp [List.getD]
theorem turned_four (p q : List Int) (x0 x1 x2 x3 t : Int) : turned (p ++ x0 :: x1 :: x2 :: x3 :: q) p.length t 4 =
    p ++ bits .xor .u8 x0 (byteOf t 0) :: bits .xor .u8 x1 (byteOf t 1) :: bits .xor .u8 x2 (byteOf t 2) :: bits .xor .u8 x3 (byteOf t 3) :: q := by
  generalize hb0 : byteOf t 0 = b0
  generalize hb1 : byteOf t 1 = b1
  generalize hb2 : byteOf t 2 = b2
  generalize hb3 : byteOf t 3 = b3
  have e1 : turned (p ++ x0 :: x1 :: x2 :: x3 :: q) p.length t 1 = (p ++ [bits .xor .u8 x0 b0]) ++ x1 :: x2 :: x3 :: q := by
    rw [turned, turned, Nat.add_zero, set_at _ _ _ _ _ rfl, get_at _ _ _ _ rfl, hb0]; simp
  have e2 : turned (p ++ x0 :: x1 :: x2 :: x3 :: q) p.length t 2 = (p ++ [bits .xor .u8 x0 b0, bits .xor .u8 x1 b1]) ++ x2 :: x3 :: q := by
    rw [turned, e1, set_at _ _ _ _ _ (by simp), get_at _ _ _ _ (by simp), hb1]; simp
  have e3 : turned (p ++ x0 :: x1 :: x2 :: x3 :: q) p.length t 3 = (p ++ [bits .xor .u8 x0 b0, bits .xor .u8 x1 b1, bits .xor .u8 x2 b2]) ++ x3 :: q := by
    rw [turned, e2, set_at _ _ _ _ _ (by simp), get_at _ _ _ _ (by simp), hb2]; simp
  rw [turned, e3, set_at _ _ _ _ _ (by simp), get_at _ _ _ _ (by simp), hb3]; simp
/-- A burst changes the check. -/
theorem burst_sum {l : List Int} {k : Nat} {t : Int} (hl : ∀ n ∈ l, 0 ≤ n ∧ n < 256) (h0 : 0 ≤ t) (h1 : t < 4294967296) (hne : t ≠ 0) (hk : k + 3 < l.length) : (N (sum l) != N (sum (turned l k t 4))) = true := by
  obtain ⟨p, q, x0, x1, x2, x3, rfl, rfl⟩ := split_four hk
  rw [turned_four, bne_iff_ne]
  intro h
  have e := (Plain.more_run _ _ _ _).1 (N_inj h)
  have r0 := hl x0 (by simp)
  have r1 := hl x1 (by simp)
  have r2 := hl x2 (by simp)
  have r3 := hl x3 (by simp)
  simp only [List.map_append, List.map_cons, (xor8 r0 (byteOf_range h0 h1 0)).2, (xor8 r1 (byteOf_range h0 h1 1)).2, (xor8 r2 (byteOf_range h0 h1 2)).2, (xor8 r3 (byteOf_range h0 h1 3)).2, W_byte h0 h1 0 (by omega), W_byte h0 h1 1 (by omega), W_byte h0 h1 2 (by omega), W_byte h0 h1 3 (by omega)] at e
  have m := Plain.run_mid (~~~ (0#32)) (p.map W) [W x0, W x1, W x2, W x3] [W x0 ^^^ ((W t >>> (8 * 0)) &&& 255#32), W x1 ^^^ ((W t >>> (8 * 1)) &&& 255#32), W x2 ^^^ ((W t >>> (8 * 2)) &&& 255#32), W x3 ^^^ ((W t >>> (8 * 3)) &&& 255#32)] (q.map W)
  simp only [List.append_assoc, List.cons_append, List.nil_append] at m
  have e2 := m.1 e
  generalize Plain.run (~~~ (0#32)) (p.map W) = S at e2
  have d := Plain.run_diff S [W x0, W x1, W x2, W x3] [W t &&& 255#32, (W t >>> 8) &&& 255#32, (W t >>> 16) &&& 255#32, (W t >>> 24) &&& 255#32] rfl
  have z := (Plain.burst (W t)).1 (d.1 e2.symm)
  have : N (W t) = 0 := by rw [z]; unfold N; decide
  rw [N_W h0 h1] at this
  exact hne this

theorem burst_walk (at_ : Int) (h0 : 0 ≤ at_) (h1 : at_ < 65536) (t : Int) (ht0 : 0 ≤ t) (ht1 : t < 4294967296) (A : Option Addr) (c : Nat) (l : List Int) (w : World) (ht : Tab w) (hl : Bytes w A l) :
    Calls Tryd.prog 5 #[.slice A l.length c, .int .u16 at_, .int .u32 t] w fun e w' => e = .returned (.bool true) ∧ Below w.heap.size w w' := by
  have HT := Lib.hid ht
  have HL := Lib.hid hl
  clear ht hl
  obtain ⟨i0, hi0, hz0, hz1, hz2⟩ := info_parts byte_info
  by_cases hlen : l.length < 4
  · go_enter Tryd.func5, Tryd.ntmps5
    go_wp2_with (go_at_call 10; refine (shown_any _ HT.out).mono ?_; rintro e w1 ⟨rfl, hb⟩)
    go_ret
    exact ⟨rfl, hb⟩
  by_cases hlen' : 500 < l.length
  · go_enter Tryd.func5, Tryd.ntmps5
    go_wp2_with (go_at_call 10; refine (shown_any _ HT.out).mono ?_; rintro e w1 ⟨rfl, hb⟩)
    go_ret
    exact ⟨rfl, hb⟩
  by_cases ht2 : t = 0
  · subst ht2
    go_enter Tryd.func5, Tryd.ntmps5
    go_wp2_with (go_at_call 10; refine (shown_any _ HT.out).mono ?_; rintro e w1 ⟨rfl, hb⟩)
    go_ret
    exact ⟨rfl, hb⟩
  have ht3 : (t == 0) = false := by simpa using ht2
  obtain ⟨k, hk, hkn⟩ : ∃ k : Nat, at_ % ((l.length : Int) - 3) = (k : Int) ∧ k + 3 < l.length := by
    have h1 := Int.emod_nonneg at_ (show (l.length : Int) - 3 ≠ 0 by omega)
    have h2 := Int.emod_lt_of_pos at_ (show 0 < (l.length : Int) - 3 by omega)
    exact ⟨(at_ % ((l.length : Int) - 3)).toNat, by omega, by omega⟩
  have hl1 := Lib.hid (show (l.map (Value.int .u8)).length = l.length * 1 from by simp)
  have hz := Lib.hid (show l.length = 0 + l.length from by simp)
  have hl2 : 0 + l.length ≤ maxLen := by unfold maxLen; omega
  have hl3 : (0 + l.length) * 1 ≤ 140737488355328 := by omega
  go_enter Tryd.func5, Tryd.ntmps5
  go_wp2_with (first
    | (go_at_call 10; refine (shown_any _ HT.out).mono ?_; rintro e w1 ⟨rfl, hb⟩; have HT1 := Lib.hid (HT.out.below hb HT.out.heap); have HL1 := Lib.hid (HL.out.below hb (Nat.le_refl _)); have HB := Lib.hid hb; have hs1 := Lib.hid (show w.heap.size ≤ (w1.alloc (.cells #[] 5)).heap.size from by rw [World.size_alloc]; have := hb.size; omega); clear hb)
    | (at_builtin
       refine wpList_append_sl _ rfl (.tmp 31) (.tmp 32) 23 rfl w.heap.size 5 i0 _ 1 1 Tryd.underlying23 hi0 hz0 hz1 hz2 rfl Nat.one_pos _ 0 [] rfl (World.ownsRow_made w1 #[] 0 HB.out.size (Nat.zero_le _) rfl) _ l.length c (l.map (Value.int .u8)) rfl hl1.out (HL1.out.sl.below ((Below.refl _ _).alloc (Nat.le_refl _) _) (Nat.le_refl _)) (ints_one _ _) hl2 hl3 hs1.out l.length hz.out ?_
       intro A2 c2 w2 hown2 hb2 _ _
       have hb2' := HB.out.trans (((Below.refl w.heap.size w1).alloc HB.out.size _).trans hb2)
       obtain ⟨g, hA2, hg, hg2⟩ := own_addr hown2 (by omega)
       subst hA2
       rw [List.nil_append] at hown2
       have HO2 := Lib.hid hown2
       have HB2 := Lib.hid hb2'
       have HG2 := Lib.hid hg2
       have HGB := Lib.hid hg
       clear hown2 hb2 hb2' hg2 hg))
  go_loopw [11] (fun i wr => ∃ j : Nat, j ≤ 4 ∧ i = .int .i64 j ∧ wr.ownsRow w.heap.size 5 1 (.slice (some ⟨g, 0, none⟩) l.length c2) l.length ((turned l k t j).map (Value.int .u8)) ∧ Below w.heap.size w wr) (fun i _ => 4 - (intOf i).toNat)
  case atStart => exact ⟨0, by omega, rfl, HO2.out, HB2.out⟩
  case round =>
    obtain ⟨j, hj, rfl, hown, hbw⟩ := hrel
    by_cases hj4 : j < 4
    · have hlt : k + j < (turned l k t j).length := by rw [turned_length]; omega
      have hx := own_cell (l := turned l k t j) (by rw [List.nil_append]; exact hown) hlt rfl
      have hf := hown.frozenAt (k + j)
      generalize hgx : (turned l k t j).getD (k + j) 0 = x at hx
      have HGX := Lib.hid hgx
      have HO := Lib.hid hown
      have HBW := Lib.hid hbw
      clear hown hbw hgx hlt
      obtain rfl | rfl | rfl | rfl : j = 0 ∨ j = 1 ∨ j = 2 ∨ j = 3 := by omega
      · simp only [Nat.add_zero] at hx hf
        go_wp2
        go_region
        go_wp2
        go_roundw
        case rel => exact ⟨1, by omega, by go_num, turned_step (j := 0) HO.out HGX.out, (HBW.out.setCell (p := ⟨g, k, none⟩) HGB.out _).drew⟩
        case measure => simp [intOf]
      · go_wp2
        go_region
        go_wp2
        go_roundw
        case rel => exact ⟨2, by omega, by go_num, turned_step (j := 1) HO.out HGX.out, (HBW.out.setCell (p := ⟨g, k + 1, none⟩) HGB.out _).drew⟩
        case measure => simp [intOf]
      · go_wp2
        go_region
        go_wp2
        go_roundw
        case rel => exact ⟨3, by omega, by go_num, turned_step (j := 2) HO.out HGX.out, (HBW.out.setCell (p := ⟨g, k + 2, none⟩) HGB.out _).drew⟩
        case measure => simp [intOf]
      · go_wp2
        go_region
        go_wp2
        go_roundw
        case rel => exact ⟨4, by omega, by go_num, turned_step (j := 3) HO.out HGX.out, (HBW.out.setCell (p := ⟨g, k + 3, none⟩) HGB.out _).drew⟩
        case measure => simp [intOf]
    · obtain rfl : j = 4 := by omega
      have HT4 := Lib.hid (HT.out.below hbw HT.out.heap)
      have HL4 := Lib.hid (HL.out.below hbw (Nat.le_refl _))
      have HM4 : Hid (Bytes wr (some ⟨g, 0, none⟩) (turned l k t 4)) := Bytes.of_sl (own_sl hown) (by rw [turned_length]; omega) (turned_range HL.out.2.1 ht0 ht1 hkn 4 (by omega))
      have hset := Lib.hid (turned_length l k t 4).symm
      have HB4 := Lib.hid hbw
      have hbur := burst_sum HL.out.2.1 ht0 ht1 ht2 hkn
      clear hown hbw
      go_wp2_with (first
        | (go_at_call_of 11 (Value.slice (some ⟨g, 0, none⟩) l.length c2); ((with_reducible refine (sum_at _ _ _ (turned l k t 4) hset.out _ HT4.out HM4.out).mono ?_); rintro e w' ⟨rfl, rfl⟩))
        | (go_at_call 11; ((with_reducible refine (sum_at _ _ _ l rfl _ HT4.out HL4.out).mono ?_); rintro e w' ⟨rfl, rfl⟩)))
      go_ret
      exact ⟨rfl, HB4.out⟩
end Go.Proofs.YtilnakkjckfhgaaDoor
