/- The walk through the statement CrcSwap. -/
import Derived.Test.YtilnakkjckfhgaaDoorLaws3
namespace Go.Proofs.YtilnakkjckfhgaaDoor
open Go.RowKit Aid

theorem split_two {l : List Int} {k : Nat} (h : k + 1 < l.length) : l = l.take k ++ [l.getD k 0, l.getD (k + 1) 0] ++ l.drop (k + 2) := by
  have e1 : l.drop k = l.getD k 0 :: l.drop (k + 1) := by
    rw [List.drop_eq_getElem_cons (by omega), List.getD_eq_getElem?_getD, List.getElem?_eq_getElem (by omega)]; rfl
  have e2 : l.drop (k + 1) = l.getD (k + 1) 0 :: l.drop (k + 2) := by
    rw [List.drop_eq_getElem_cons h, List.getD_eq_getElem?_getD, List.getElem?_eq_getElem h]; rfl
  rw [List.append_assoc]
  show l = l.take k ++ (l.getD k 0 :: l.getD (k + 1) 0 :: l.drop (k + 2))
  rw [← e2, ← e1, List.take_append_drop]
theorem set_two {l : List Int} {k : Nat} (h : k + 1 < l.length) (x y : Int) : (l.set k x).set (k + 1) y = l.take k ++ [x, y] ++ l.drop (k + 2) := by
  apply List.ext_getElem?
  intro i
  rw [List.getElem?_set, List.getElem?_set]
  by_cases h1 : i < k
  · rw [if_neg (by omega), if_neg (by omega), List.append_assoc, List.getElem?_append_left (by rw [List.length_take]; omega), List.getElem?_take_of_lt h1]
  · by_cases h2 : i = k
    · subst h2
      rw [if_neg (by omega), if_pos rfl, if_pos (by omega), List.append_assoc, List.getElem?_append_right (by rw [List.length_take]; omega), List.length_take, show i - min i l.length = 0 from by omega]; rfl
    · by_cases h3 : i = k + 1
      · subst h3
        rw [if_pos rfl, if_pos (by rw [List.length_set]; omega), List.append_assoc, List.getElem?_append_right (by rw [List.length_take]; omega), List.length_take, show k + 1 - min k l.length = 1 from by omega]; rfl
      · rw [if_neg (by omega), if_neg (by omega), List.getElem?_append_right (by rw [List.length_append, List.length_take]; simp; omega), List.getElem?_drop]
        congr 1
        rw [List.length_append, List.length_take]; simp; omega
theorem W_inj {x y : Int} (hx : 0 ≤ x ∧ x < 256) (hy : 0 ≤ y ∧ y < 256) (h : W x = W y) : x = y := by
  rw [← N_W hx.1 (by omega), ← N_W hy.1 (by omega), h]
theorem W_toNat {x : Int} (hx : 0 ≤ x ∧ x < 256) : (W x).toNat < 256 := by
  unfold W; rw [BitVec.toNat_ofNat]; omega
theorem xor_lt {x y : BitVec 32} (hx : x.toNat < 256) (hy : y.toNat < 256) : (x ^^^ y).toNat < 256 := by
  rw [BitVec.toNat_xor]; exact Nat.xor_lt_two_pow (n := 8) hx hy
/-- Two neighbours change places. -/
theorem swap_sum {l : List Int} {k : Nat} (h : k + 1 < l.length) (hb : ∀ n ∈ l, 0 ≤ n ∧ n < 256) :
    (N (sum ((l.set k (l.getD (k + 1) 0)).set (k + 1) (l.getD k 0))) == N (sum l)) = (l.getD k 0 == l.getD (k + 1) 0) := by
  have hx := hb _ (getD_mem (k := k) (by omega))
  have hy := hb _ (getD_mem h)
  rw [set_two h]
  conv => lhs; rhs; rw [split_two h]
  generalize l.getD k 0 = x at *
  generalize l.getD (k + 1) 0 = y at *
  rw [Bool.eq_iff_iff, beq_iff_eq, beq_iff_eq]
  unfold sum
  constructor
  · intro e
    have e1 := (Plain.more_run _ _ _ _).1 (N_inj e)
    simp only [List.map_append, List.map_cons, List.map_nil] at e1
    rw [Plain.run_mid] at e1
    have z : List.zipWith (· ^^^ ·) [W x, W y] [W x ^^^ W y, W x ^^^ W y] = [W y, W x] := by
      simp only [List.zipWith_cons_cons, List.zipWith_nil_left]
      have p : W x ^^^ (W x ^^^ W y) = W y := by rw [← BitVec.xor_assoc, BitVec.xor_self, BitVec.zero_xor]
      have q : W y ^^^ (W x ^^^ W y) = W x := by rw [BitVec.xor_comm (W x), ← BitVec.xor_assoc, BitVec.xor_self, BitVec.zero_xor]
      rw [p, q]
    generalize Plain.run (~~~ (0#32)) (List.map W (List.take k l)) = S at e1
    rw [← z] at e1
    have e2 := (Plain.twin (W x ^^^ W y) (xor_lt (W_toNat hx) (W_toNat hy))).1 ((Plain.run_diff S [W x, W y] [W x ^^^ W y, W x ^^^ W y] rfl).1 e1)
    have e3 : W x = W y := by
      have := congrArg (W x ^^^ ·) e2
      simp only [← BitVec.xor_assoc, BitVec.xor_self, BitVec.zero_xor, BitVec.xor_zero] at this
      exact this.symm
    exact W_inj hx hy e3
  · rintro rfl; rfl

theorem own_addr {w : World} {base : Nat} {e : TypeId} {A : Option Addr} {n c : Nat} {xs : List Value} (h : w.ownsRow base e 1 (.slice A n c) n xs) (hn : 0 < n) : ∃ g, A = some ⟨g, 0, none⟩ ∧ base ≤ g ∧ g < w.heap.size := by
  rcases own_form h with ⟨hv, h0, _⟩ | ⟨g, cap, hv, hb, hlt, _⟩
  · omega
  · injection hv with hA
    exact ⟨g, hA, hb, hlt⟩
theorem own_cell {w : World} {base : Nat} {e : TypeId} {g n c : Nat} {l : List Int} (h : w.ownsRow base e 1 (.slice (some ⟨g, 0, none⟩) n c) n ([] ++ l.map (Value.int .u8))) {k : Nat} (hk : k < l.length) {x : Int} (hx : l.getD k 0 = x) :
    w.cell? ⟨g, k, none⟩ = some (.int .u8 x) := by
  have hn : n = l.length := by have := h.1; simp at this; omega
  rw [h.cellAt k (by omega), List.nil_append, List.getElem?_map, List.getElem?_eq_getElem hk, ← hx, List.getD_eq_getElem?_getD, List.getElem?_eq_getElem hk]; rfl
theorem swap_mem {l : List Int} {k : Nat} {x y : Int} (hb : ∀ n ∈ l, 0 ≤ n ∧ n < 256) (h : k + 1 < l.length) (hx : l.getD k 0 = x) (hy : l.getD (k + 1) 0 = y) : ∀ n ∈ (l.set k y).set (k + 1) x, 0 ≤ n ∧ n < 256 := by
  intro n hn
  rcases List.mem_or_eq_of_mem_set hn with hn | rfl
  · rcases List.mem_or_eq_of_mem_set hn with hn | rfl
    · exact hb n hn
    · rw [← hy]; exact hb _ (getD_mem h)
  · rw [← hx]; exact hb _ (getD_mem (by omega))
theorem swap_walk (at_ : Int) (h0 : 0 ≤ at_) (h1 : at_ < 65536) (A : Option Addr) (c : Nat) (l : List Int) (w : World) (ht : Tab w) (hl : Bytes w A l) :
    Calls Tryd.prog 8 #[.slice A l.length c, .int .u16 at_] w fun e w' => e = .returned (.bool true) ∧ Below w.heap.size w w' := by
  have HT := Lib.hid ht
  have HL := Lib.hid hl
  clear ht hl
  obtain ⟨i0, hi0, hz0, hz1, hz2⟩ := info_parts byte_info
  by_cases hlen : l.length < 2
  · go_enter Tryd.func8, Tryd.ntmps8
    go_wp2_with (go_at_call 10; refine (shown_any _ HT.out).mono ?_; rintro e w1 ⟨rfl, hb⟩)
    go_ret
    exact ⟨rfl, hb⟩
  by_cases hlen' : 600 < l.length
  · go_enter Tryd.func8, Tryd.ntmps8
    go_wp2_with (go_at_call 10; refine (shown_any _ HT.out).mono ?_; rintro e w1 ⟨rfl, hb⟩)
    go_ret
    exact ⟨rfl, hb⟩
  obtain ⟨k, hk, hkn⟩ : ∃ k : Nat, at_ % ((l.length : Int) - 1) = (k : Int) ∧ k + 1 < l.length := by
    have h1 := Int.emod_nonneg at_ (show (l.length : Int) - 1 ≠ 0 by omega)
    have h2 := Int.emod_lt_of_pos at_ (show 0 < (l.length : Int) - 1 by omega)
    exact ⟨(at_ % ((l.length : Int) - 1)).toNat, by omega, by omega⟩
  have hsw := swap_sum hkn HL.out.2.1
  obtain ⟨b, off, rfl, hcs⟩ := HL.out.2.2 (by omega)
  have hb : b < w.heap.size := World.block_lt_of_cell? w _ (hcs k (by omega))
  have hx := hcs k (by omega)
  have hy := hcs (k + 1) hkn
  clear hcs
  have HX : Hid (∃ x, l.getD k 0 = x) := ⟨_, rfl⟩
  generalize hgx : l.getD k 0 = x at hx hsw
  generalize hgy : l.getD (k + 1) 0 = y at hy hsw
  have HGX := Lib.hid hgx
  have HGY := Lib.hid hgy
  clear hgx hgy HX
  have hl1 := Lib.hid (show (l.map (Value.int .u8)).length = l.length * 1 from by simp)
  have hz := Lib.hid (show l.length = 0 + l.length from by simp)
  have hl2 : 0 + l.length ≤ maxLen := by unfold maxLen; omega
  have hl3 : (0 + l.length) * 1 ≤ 140737488355328 := by omega
  go_enter Tryd.func8, Tryd.ntmps8
  go_wp2_with (first
    | (go_at_call 10; refine (shown_any _ HT.out).mono ?_; rintro e w1 ⟨rfl, hb⟩; have HT1 := Lib.hid (HT.out.below hb HT.out.heap); have HL1 := Lib.hid (HL.out.below hb (Nat.le_refl _)); have HB := Lib.hid hb; have hs1 := Lib.hid (show w.heap.size ≤ (w1.alloc (.cells #[] 5)).heap.size from by rw [World.size_alloc]; have := hb.size; omega); clear hb)
    | (at_builtin
       refine wpList_append_sl _ rfl (.tmp 24) (.tmp 25) 23 rfl w.heap.size 5 i0 _ 1 1 Tryd.underlying23 hi0 hz0 hz1 hz2 rfl Nat.one_pos _ 0 [] rfl (World.ownsRow_made w1 #[] 0 HB.out.size (Nat.zero_le _) rfl) _ l.length c (l.map (Value.int .u8)) rfl hl1.out (HL1.out.sl.below ((Below.refl _ _).alloc (Nat.le_refl _) _) (Nat.le_refl _)) (ints_one _ _) hl2 hl3 hs1.out l.length hz.out ?_
       intro A2 c2 w2 hown2 hb2 _ _
       have hb2' := HB.out.trans (((Below.refl w.heap.size w1).alloc HB.out.size _).trans hb2)
       obtain ⟨g, hA2, hg, hg2⟩ := own_addr hown2 (by omega)
       subst hA2
       have hx2 := (hb2'.cell (p := ⟨b, off + k, none⟩) hb).trans hx
       have hy2 := (hb2'.cell (p := ⟨b, off + (k + 1), none⟩) hb).trans hy
       have hgx := own_cell hown2 (k := k) (by omega) HGX.out
       have hgy := own_cell hown2 (k := k + 1) (by omega) HGY.out
       have hfx := hown2.frozenAt k
       have hfy := hown2.frozenAt (k + 1)
       have hbg : b < g := by omega
       have HO2 := Lib.hid hown2
       have HB2 := Lib.hid hb2'
       have HG2 := Lib.hid hg2
       have HGB := Lib.hid hg
       clear hown2 hb2 hb2' hg2 hg))
  have hrow := ((HO2.out.stored k (.int .u8 y)).1.stored (k + 1) (.int .u8 x)).1
  have hb4 : Below w.heap.size w ((w2.setCell ⟨g, k, none⟩ (.int .u8 y)).setCell ⟨g, k + 1, none⟩ (.int .u8 x)) := (HB2.out.setCell (p := ⟨g, k, none⟩) HGB.out _).setCell (p := ⟨g, k + 1, none⟩) HGB.out _
  have hx4 := (hb4.cell (p := ⟨b, off + k, none⟩) hb).trans hx
  have hy4 := (hb4.cell (p := ⟨b, off + (k + 1), none⟩) hb).trans hy
  generalize (w2.setCell ⟨g, k, none⟩ (.int .u8 y)).setCell ⟨g, k + 1, none⟩ (.int .u8 x) = w4 at hrow hb4 hx4 hy4 ⊢
  have HT4 := Lib.hid (HT.out.below hb4 HT.out.heap)
  have HL4 := Lib.hid (HL.out.below hb4 (Nat.le_refl _))
  have HM4 : Hid (Bytes w4 (some ⟨g, 0, none⟩) ((l.set k y).set (k + 1) x)) := Bytes.of_sl (by
      have := own_sl hrow
      rw [List.nil_append] at this
      rwa [List.map_set, List.map_set]) (by rw [List.length_set, List.length_set]; omega) (swap_mem HL.out.2.1 hkn HGX.out HGY.out)
  have hset := Lib.hid (show l.length = ((l.set k y).set (k + 1) x).length from by rw [List.length_set, List.length_set])
  have HB4 := Lib.hid hb4
  clear hrow hb4 hx hy
  go_quiet ((first
      | (go_at_call_of 11 (Value.slice (some ⟨g, 0, none⟩) l.length c2); ((with_reducible refine quiet_left (sum_at _ _ _ ((l.set k y).set (k + 1) x) hset.out _ ?_ ?_)); exact HT4.out; exact HM4.out))
      | (go_at_call 11; ((with_reducible refine quiet_left (sum_at _ _ _ l rfl _ ?_ ?_)); exact HT4.out; exact HL4.out))))
  go_wp2
  go_ret
  exact ⟨rfl, below_drewN HB4.out _⟩
end Go.Proofs.YtilnakkjckfhgaaDoor
