/- The walk through the statement CrcTurns. -/
import Derived.Test.YtilnakkjckfhgaaDoorLaws5
namespace Go.Proofs.YtilnakkjckfhgaaDoor
open Go.RowKit Aid

/-- Place i of three texts, exclusive-or together. -/
def triAt (a b c : List Int) (i : Nat) : Int := bits .xor .u8 (bits .xor .u8 (a.getD i 0) (b.getD i 0)) (c.getD i 0)
/-- The first j places are filled. -/
def tri (a b c : List Int) : Nat → List Int
  | 0 => List.replicate a.length 0
  | j + 1 => (tri a b c j).set j (triAt a b c j)
theorem tri_length (a b c : List Int) (j : Nat) : (tri a b c j).length = a.length := by
  induction j with
  | zero => simp [tri]
  | succ j ih => simp only [tri, List.length_set, ih]
theorem tri_get (a b c : List Int) (j i : Nat) (hi : i < a.length) : (tri a b c j)[i]? = some (if i < j then triAt a b c i else 0) := by
  induction j with
  | zero => simp [tri, hi]
  | succ j ih =>
    simp only [tri, List.getElem?_set]
    by_cases h : j = i
    · subst h; simp [tri_length, hi]
    · rw [if_neg h, ih]
      by_cases h2 : i < j
      · rw [if_pos h2, if_pos (by omega)]
      · rw [if_neg h2, if_neg (by omega)]
theorem triAt_ok {a b c : List Int} {i : Nat} (ha : ∀ n ∈ a, 0 ≤ n ∧ n < 256) (hb : ∀ n ∈ b, 0 ≤ n ∧ n < 256) (hc : ∀ n ∈ c, 0 ≤ n ∧ n < 256) (h1 : i < a.length) (h2 : i < b.length) (h3 : i < c.length) :
    (0 ≤ triAt a b c i ∧ triAt a b c i < 256) ∧ W (triAt a b c i) = W (a.getD i 0) ^^^ W (b.getD i 0) ^^^ W (c.getD i 0) := by
  have x := xor8 (ha _ (getD_mem h1)) (hb _ (getD_mem h2))
  have y := xor8 x.1 (hc _ (getD_mem h3))
  exact ⟨y.1, by unfold triAt; rw [y.2, x.2]⟩
theorem tri_all {a b c : List Int} (ha : ∀ n ∈ a, 0 ≤ n ∧ n < 256) (hb : ∀ n ∈ b, 0 ≤ n ∧ n < 256) (hc : ∀ n ∈ c, 0 ≤ n ∧ n < 256) (h2 : a.length ≤ b.length) (h3 : a.length ≤ c.length) :
    (∀ n ∈ tri a b c a.length, 0 ≤ n ∧ n < 256) ∧ (tri a b c a.length).map W = List.zipWith (· ^^^ ·) (List.zipWith (· ^^^ ·) (a.map W) ((b.take a.length).map W)) ((c.take a.length).map W) := by
  constructor
  · intro n hn
    obtain ⟨i, hi, rfl⟩ := List.mem_iff_getElem.1 hn
    rw [tri_length] at hi
    have := tri_get a b c a.length i hi
    rw [List.getElem?_eq_getElem (by rw [tri_length]; exact hi), if_pos hi] at this
    rw [Option.some.inj this]
    exact (triAt_ok ha hb hc hi (by omega) (by omega)).1
  · apply List.ext_getElem?
    intro i
    by_cases hi : i < a.length
    · rw [List.getElem?_map, tri_get a b c _ i hi, if_pos hi, List.getElem?_zipWith, List.getElem?_zipWith, List.getElem?_map, List.getElem?_map, List.getElem?_map, List.getElem?_take_of_lt hi, List.getElem?_take_of_lt hi,
        List.getElem?_eq_getElem hi, List.getElem?_eq_getElem (show i < b.length by omega), List.getElem?_eq_getElem (show i < c.length by omega)]
      simp only [Option.map_some]
      rw [(triAt_ok ha hb hc hi (by omega) (by omega)).2, List.getD_eq_getElem?_getD, List.getD_eq_getElem?_getD, List.getD_eq_getElem?_getD,
        List.getElem?_eq_getElem hi, List.getElem?_eq_getElem (show i < b.length by omega), List.getElem?_eq_getElem (show i < c.length by omega)]
      rfl
    · rw [List.getElem?_eq_none (by simp [tri_length]; omega), List.getElem?_eq_none (by simp; omega)]
theorem tri_sum {a b c : List Int} (ha : ∀ n ∈ a, 0 ≤ n ∧ n < 256) (hb : ∀ n ∈ b, 0 ≤ n ∧ n < 256) (hc : ∀ n ∈ c, 0 ≤ n ∧ n < 256) (h2 : a.length ≤ b.length) (h3 : a.length ≤ c.length) :
    sum (tri a b c a.length) = sum a ^^^ sum (b.take a.length) ^^^ sum (c.take a.length) := by
  unfold sum
  rw [(tri_all ha hb hc h2 h3).2, Plain.more_three _ _ _ (by simp; omega) (by simp; omega)]

theorem made_zero {w : World} {base g : Nat} {a b c : List Int} (h : w.ownsRow base 5 1 (.slice (some ⟨g, 0, none⟩) a.length a.length) a.length (madeCells (Value.int .u8 0).cells (a.length * 1)).toList) :
    w.ownsRow base 5 1 (.slice (some ⟨g, 0, none⟩) a.length a.length) a.length ((tri a b c 0).map (Value.int .u8)) := by
  rw [show (Value.int .u8 0).cells = #[.int .u8 0] from rfl, toList_madeCells_one, Nat.mul_one] at h
  rw [tri, List.map_replicate]; exact h
theorem turns_walk (A B C : Option Addr) (p q r : Nat) (a b c : List Int) (w : World) (hq : b.length ≤ q) (hq' : q ≤ 9223372036854775807) (hr : c.length ≤ r) (ht : Tab w) (ha : Bytes w A a) (hb : Bytes w B b) (hc : Bytes w C c) :
    Calls Tryd.prog 6 #[.slice A a.length p, .slice B b.length q, .slice C c.length r] w fun e w' => e = .returned (.bool true) ∧ Below w.heap.size w w' := by
  have HT := Lib.hid ht
  have HA := Lib.hid ha
  have HB := Lib.hid hb
  have HC := Lib.hid hc
  clear ht ha hb hc
  obtain ⟨i0, hi0, hz0, hz1, hz2⟩ := info_parts byte_info
  by_cases h1 : 500 < a.length
  · go_enter Tryd.func6, Tryd.ntmps6
    go_wp2_with (go_at_call 10; refine (shown_any _ HT.out).mono ?_; rintro e w1 ⟨rfl, hb⟩)
    go_ret
    exact ⟨rfl, hb⟩
  by_cases h2 : b.length < a.length
  · have h2' : decide (b.length < a.length) = true := by simpa using h2
    go_enter Tryd.func6, Tryd.ntmps6
    go_wp2_with (go_at_call 10; refine (shown_any _ HT.out).mono ?_; rintro e w1 ⟨rfl, hb⟩)
    go_ret
    exact ⟨rfl, hb⟩
  by_cases h3 : c.length < a.length
  · have h3' : decide (c.length < a.length) = true := by simpa using h3
    have h2' : decide (b.length < a.length) = false := by simpa using h2
    go_enter Tryd.func6, Tryd.ntmps6
    go_wp2_with (go_at_call 10; refine (shown_any _ HT.out).mono ?_; rintro e w1 ⟨rfl, hb⟩)
    go_ret
    exact ⟨rfl, hb⟩
  have h3' : decide (c.length < a.length) = false := by simpa using h3
  have h2' : decide (b.length < a.length) = false := by simpa using h2
  have hby : i0.bytes * a.length ≤ 281474976710656 := by rw [hz2]; omega
  have hmx : a.length ≤ maxLen := by unfold maxLen; omega
  go_enter Tryd.func6, Tryd.ntmps6
  go_wp2_with (first
    | (go_at_call 10; refine (shown_any _ HT.out).mono ?_; rintro e w1 ⟨rfl, hb⟩; have HBW1 := Lib.hid hb; clear hb)
    | (at_make
       refine wpList_make_full _ rfl (.tmp 29) (.tmp 29) 23 rfl w.heap.size 5 i0 _ 1 Tryd.underlying23 hi0 hz0 hz1 .i64 .i64 _ _ a.length rfl rfl rfl rfl hby hmx HBW1.out.size ?_
       intro w2 hown2 hg2
       have HBW2 := Lib.hid (HBW1.out.grown hg2 HBW1.out.size (fun _ h => by cases h))
       have hgb := HBW1.out.size
       generalize w1.heap.size = g at hown2 hgb ⊢
       have HO2 := Lib.hid hown2
       clear hown2 hg2))
  go_loopw [10] (fun i wr => ∃ j : Nat, j ≤ a.length ∧ i = .int .i64 j ∧ wr.ownsRow w.heap.size 5 1 (.slice (some ⟨g, 0, none⟩) a.length a.length) a.length ((tri a b c j).map (Value.int .u8)) ∧ Below w.heap.size w wr) (fun i _ => a.length - (intOf i).toNat)
  case atStart => exact ⟨0, by omega, rfl, made_zero HO2.out, HBW2.out⟩
  case round =>
    obtain ⟨j, hj, rfl, hown, hbw⟩ := hrel
    by_cases hlt : j < a.length
    · obtain ⟨ba, oa, hA, hca⟩ := HA.out.2.2 (by omega)
      obtain ⟨bb, ob, hB, hcb⟩ := HB.out.2.2 (by omega)
      obtain ⟨bc, oc, hC, hcc⟩ := HC.out.2.2 (by omega)
      have ka := hca j hlt
      have kb := hcb j (by omega)
      have kc := hcc j (by omega)
      have la := World.block_lt_of_cell? w _ ka
      have lb := World.block_lt_of_cell? w _ kb
      have lc := World.block_lt_of_cell? w _ kc
      have xa := (hbw.cell la).trans ka
      have xb := (hbw.cell lb).trans kb
      have xc := (hbw.cell lc).trans kc
      clear hca hcb hcc ka kb kc
      simp only at la lb lc
      subst hA hB hC
      have hx := own_cell (l := tri a b c j) (by rw [List.nil_append]; exact hown) (by rw [tri_length]; exact hlt) rfl
      have hf := hown.frozenAt j
      have hs1 : (j : Int) < (b.length : Int) := by omega
      have hs2 : (j : Int) < (c.length : Int) := by omega
      have hstep := (hown.stored j (.int .u8 (triAt a b c j))).1
      have HS : Hid ((wr.setCell ⟨g, j, none⟩ (.int .u8 (triAt a b c j))).drew.ownsRow w.heap.size 5 1 (.slice (some ⟨g, 0, none⟩) a.length a.length) a.length ((tri a b c (j + 1)).map (Value.int .u8))) := by
        show World.ownsRow _ _ _ _ _ _ _
        rw [tri, List.map_set]; exact hstep
      have HBS := Lib.hid (hbw.setCell (p := ⟨g, j, none⟩) hgb (.int .u8 (triAt a b c j))).drew
      have HV : Hid (triAt a b c j = bits .xor .u8 (bits .xor .u8 (a.getD j 0) (b.getD j 0)) (c.getD j 0)) := rfl
      clear hown hbw hstep
      generalize (tri a b c j).getD j 0 = x at hx
      generalize a.getD j 0 = ya at xa HV
      generalize b.getD j 0 = yb at xb HV
      generalize c.getD j 0 = yc at xc HV
      go_wp2
      go_region
      go_wp2
      go_roundw
      case rel =>
        rw [← HV.out]
        exact ⟨j + 1, by omega, by go_num, HS.out, HBS.out⟩
      case measure => simp [intOf]; omega
    · obtain rfl : j = a.length := by omega
      have HT4 := Lib.hid (HT.out.below hbw HT.out.heap)
      have HA4 := Lib.hid (HA.out.below hbw (Nat.le_refl _))
      have HB4 := Lib.hid ((HB.out.below hbw (Nat.le_refl _)).take a.length)
      have HC4 := Lib.hid ((HC.out.below hbw (Nat.le_refl _)).take a.length)
      have HM4 : Hid (Bytes wr (some ⟨g, 0, none⟩) (tri a b c a.length)) := Bytes.of_sl (own_sl hown) (by rw [tri_length]; omega) (tri_all HA.out.2.1 HB.out.2.1 HC.out.2.1 (by omega) (by omega)).1
      have hs0 := Lib.hid (tri_length a b c a.length).symm
      have hsb := Lib.hid (show a.length = (b.take a.length).length from by rw [List.length_take]; omega)
      have hsc := Lib.hid (show a.length = (c.take a.length).length from by rw [List.length_take]; omega)
      have HBW4 := Lib.hid hbw
      have hsum := congrArg N (tri_sum HA.out.2.1 HB.out.2.1 HC.out.2.1 (show a.length ≤ b.length by omega) (show a.length ≤ c.length by omega))
      have x1 := xor_N (sum a) (sum (b.take a.length))
      have x2 := xor_N (sum a ^^^ sum (b.take a.length)) (sum (c.take a.length))
      have hsq : a.length ≤ q := by omega
      have hsr : a.length ≤ r := by omega
      clear hown hbw
      go_wp2
      go_quiet ((first
        | (go_at_call_of 11 (Value.slice (some ⟨g, 0, none⟩) a.length a.length); ((with_reducible refine quiet_left (sum_at _ _ _ (tri a b c a.length) hs0.out _ ?_ ?_)); exact HT4.out; exact HM4.out))
        | (go_at_call_of 11 (Value.slice A a.length p); ((with_reducible refine quiet_left (sum_at A p _ a rfl _ ?_ ?_)); exact HT4.out; exact HA4.out))
        | (go_at_call_of 11 (Value.slice B a.length q); ((with_reducible refine quiet_left (sum_at B q _ _ hsb.out _ ?_ ?_)); exact HT4.out; exact HB4.out))
        | (go_at_call_of 11 (Value.slice C a.length r); ((with_reducible refine quiet_left (sum_at C r _ _ hsc.out _ ?_ ?_)); exact HT4.out; exact HC4.out))))
      go_wp2
      go_ret
      exact ⟨rfl, below_drewN HBW4.out _⟩
end Go.Proofs.YtilnakkjckfhgaaDoor
