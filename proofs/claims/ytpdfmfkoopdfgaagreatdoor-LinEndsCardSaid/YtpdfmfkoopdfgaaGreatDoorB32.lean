/- HListed, HPtsPlain, HRefKeys. -/
import Derived.Test.YtpdfmfkoopdfgaaGreatDoorB31
set_option linter.unusedVariables false
section
namespace Go.Proofs.YtpdfmfkoopdfgaaGreatDoor.Hs
set_option maxRecDepth 100000
open Go.RowKit Aid

theorem sorted_pair (zs : List Int) : (sorted zs).Pairwise (· ≤ ·) := by
  have := List.pairwise_mergeSort (le := fun x y : Int => decide (x ≤ y)) (by intro a b c h1 h2; simp at *; omega) (by intro a b; simp; omega) zs
  exact this.imp (fun h => by simpa using h)
theorem compact_pair {zs : List Int} (h : zs.Pairwise (· ≤ ·)) : (Lib.compact zs).Pairwise (· ≤ ·) := by
  unfold Lib.compact Lib.compactUpTo
  rw [List.pairwise_map]
  have hr : (List.range zs.length).Pairwise (· < ·) := List.pairwise_lt_range
  have hm : ∀ x ∈ (List.range zs.length).filter (Lib.keeps zs.toArray), x < zs.length := fun x hx => List.mem_range.1 (List.mem_filter.1 hx).1
  refine List.Pairwise.imp_of_mem ?_ (hr.filter _)
  intro a b ha hb hab
  have h1 := hm a ha
  have h2 := hm b hb
  have := List.pairwise_iff_getElem.1 h a b h1 h2 hab
  rw [getElem!_pos _ _ (by simpa using h1), getElem!_pos _ _ (by simpa using h2)]
  simpa using this
theorem keys_pair (l : List Cl) : (keysOf l).Pairwise (· ≤ ·) := compact_pair (sorted_pair _)
theorem bs_any (K : Option Addr) (m d : Nat) (keys : List Int) (x : Int) (w : World) (hm : m = keys.length) (hK : Sl w K (keys.map (Value.int .i64))) (hs : keys.Pairwise (· ≤ ·)) (hb : keys.length ≤ 100000) :
    Calls Tryz.prog 85 #[.slice K m d, .int .i64 x] w fun e w' => (∃ z, e = .returned (.tuple #[.int .i64 z, .bool (keys.contains x)])) ∧ Below w.heap.size w w' := by
  subst hm
  by_cases h0 : keys.length = 0
  · have hl : keys = [] := List.eq_nil_of_length_eq_zero h0
    subst hl
    refine (Tryz.slices_BinarySearch_int_empty K d x w).mono ?_
    rintro e w' ⟨rfl, rfl⟩
    exact ⟨⟨_, rfl⟩, Below.refl _ _⟩
  · obtain ⟨b, off, rfl, hc⟩ := hK (by rw [List.length_map]; omega)
    have := Tryz.slices_BinarySearch_int b off keys.length d keys x w (Nat.le_refl _) (by omega) (fun j hj => hc j _ (by rw [List.getElem?_map, List.getElem?_eq_getElem hj, List.getD_eq_getElem?_getD, List.getElem?_eq_getElem hj]; rfl)) (by rw [List.take_length]; exact hs)
    rw [List.take_length] at this
    refine this.mono ?_
    rintro e w' ⟨rfl, q, rfl⟩
    exact ⟨⟨_, rfl⟩, below_drewN (Below.refl _ _) q⟩
def GoodAt (keys l : List Int) (j : Nat) : Prop := keys.contains (l.getD j 0) = true ∧ (0 < j → l.getD (j - 1) 0 < l.getD j 0)
instance (keys l : List Int) (j : Nat) : Decidable (GoodAt keys l j) := by unfold GoodAt; infer_instance
def risesB (keys l : List Int) : Bool := decide (∀ j, j < l.length → GoodAt keys l j)
def listedB (c : Cl) (keys : List Int) : Bool := if c.k ≠ 17 ∨ c.is = false then decide (c.list.length = 0) else risesB keys c.list
theorem rises_no {keys l : List Int} {j : Nat} (hj : j < l.length) (h : ¬ GoodAt keys l j) : risesB keys l = false := decide_eq_false fun q => h (q j hj)
theorem rises_all {keys l : List Int} {i : Nat} (hi : i = l.length) (h : ∀ j, j < i → GoodAt keys l j) : risesB keys l = true := decide_eq_true fun j hj => h j (by omega)
theorem good_step {keys l : List Int} {i : Nat} (h : ∀ j, j < i → GoodAt keys l j) (h2 : GoodAt keys l i) : ∀ j, j < i + 1 → GoodAt keys l j := fun j hj => by
  rcases Nat.lt_or_ge j i with q | q
  · exact h j q
  · obtain rfl : j = i := by omega
    exact h2
set_option maxHeartbeats 8000000 in
set_option maxRecDepth 100000 in
theorem listed_len (c : Cl) (K : Option Addr) (m d : Nat) (w : World) (h : c.k ≠ 17 ∨ c.is = false) : Calls Tryz.prog 58 #[c.val, .slice K m d] w fun e w' => e = .returned (.bool (decide (c.list.length = 0))) ∧ Below w.heap.size w w' := by
  obtain ⟨me, k, u, v, x, era, fr, to, err, is, n, wt, list, cA, cap⟩ := c
  simp only at h ⊢
  have HA := Lib.hid ((Below.refl w.heap.size w).alloc (Nat.le_refl _) (bx ⟨me, k, u, v, x, era, fr, to, err, is, n, wt, list, cA, cap⟩))
  unfold bx at HA
  simp only at HA
  unfold Cl.val
  by_cases hk : k = 17
  · have hs : is = false := h.resolve_left (fun q => q hk)
    subst hk hs
    clear h
    by_cases h0 : list.length = 0
    · rw [decide_eq_true h0]
      rw [h0] at HA ⊢
      clear h0
      go_enter Tryz.func58, Tryz.ntmps58
      go_wp2
      go_ret
      exact ⟨rfl, HA.out⟩
    · have z1 : ((list.length : Int) == 0) = false := by simp; intro q; simp [q] at h0
      rw [decide_eq_false h0]
      generalize list.length = nl at *
      have z2 : (nl == 0) = false := by simpa using h0
      clear h0
      go_enter Tryz.func58, Tryz.ntmps58
      go_wp2
      go_ret
      exact ⟨rfl, HA.out⟩
  · have k1 : (k == 17) = false := by simpa using hk
    clear h
    by_cases h0 : list.length = 0
    · rw [decide_eq_true h0]
      rw [h0] at HA ⊢
      clear h0
      go_enter Tryz.func58, Tryz.ntmps58
      go_wp2
      go_ret
      exact ⟨rfl, HA.out⟩
    · have z1 : ((list.length : Int) == 0) = false := by simp; intro q; simp [q] at h0
      rw [decide_eq_false h0]
      generalize list.length = nl at *
      have z2 : (nl == 0) = false := by simpa using h0
      clear h0
      go_enter Tryz.func58, Tryz.ntmps58
      go_wp2
      go_ret
      exact ⟨rfl, HA.out⟩
set_option maxHeartbeats 8000000 in
set_option maxRecDepth 100000 in
theorem listed_rises (c : Cl) (K : Option Addr) (m d : Nat) (keys : List Int) (w : World) (hk : c.k = 17) (hs : c.is = true) (hm : m = keys.length) (hK : Sl w K (keys.map (Value.int .i64))) (hp : keys.Pairwise (· ≤ ·)) (h40 : keys.length ≤ 100000) (hL : Sl w c.A (c.list.map (Value.int .i64))) (hlb : c.list.length ≤ 9223372036854775807) :
    Calls Tryz.prog 58 #[c.val, .slice K m d] w fun e w' => e = .returned (.bool (risesB keys c.list)) ∧ Below w.heap.size w w' := by
  subst hm
  obtain ⟨me, k, u, v, x, era, fr, to, err, is, n, wt, list, cA, cap⟩ := c
  simp only at hk hs hL hlb ⊢
  subst hk hs
  have HA := Lib.hid ((Below.refl w.heap.size w).alloc (Nat.le_refl _) (bx ⟨me, 17, u, v, x, era, fr, to, err, true, n, wt, list, cA, cap⟩))
  unfold bx at HA
  simp only at HA
  have HL := Lib.hid hL
  have HB : Hid (∀ W y, Below w.heap.size w W → Calls Tryz.prog 85 #[.slice K keys.length d, .int .i64 y] W fun e w' => (∃ z, e = .returned (.tuple #[.int .i64 z, .bool (keys.contains y)])) ∧ Below W.heap.size W w') := Lib.hid fun W y hW => bs_any K keys.length d keys y W rfl (hK.below hW (Nat.le_refl _)) hp h40
  clear hK hp hL
  unfold Cl.val
  go_enter Tryz.func58, Tryz.ntmps58
  go_wp2
  go_loopw [28] (fun sv wr => ∃ j : Nat, j ≤ list.length ∧ sv = .int .i64 j ∧ (∀ i, i < j → GoodAt keys list i) ∧ Below w.heap.size w wr) (fun sv _ => list.length - (intOf sv).toNat)
  case atStart => exact ⟨0, Nat.zero_le _, rfl, fun i hi => by omega, HA.out⟩
  case round =>
    obtain ⟨j, hj, rfl, hg, hb⟩ := hrel
    have HG := Lib.hid hg
    have HW := Lib.hid hb
    clear hg hb
    by_cases hlt : j < list.length
    · obtain ⟨b, off, hA, hc⟩ := (HL.out.below HW.out (Nat.le_refl _)) (by rw [List.length_map]; omega)
      subst hA
      have gd : ∀ i (hi : i < list.length), list.getD i 0 = list[i] := fun i hi => by rw [List.getD_eq_getElem?_getD, List.getElem?_eq_getElem hi]; rfl
      have hcj := hc j (.int .i64 (list.getD j 0)) (by rw [List.getElem?_map, List.getElem?_eq_getElem hlt, gd j hlt]; rfl)
      have D := Lib.hid (HB.out wr (list.getD j 0) HW.out)
      have i0 : (0 : Int) ≤ (j : Int) := by omega
      have i1 : (j : Int) < (list.length : Int) := by omega
      have n3 : IntKind.i64.wrap ((j : Int) + 1) = (j : Int) + 1 := by rw [IntKind.wrap_i64] <;> omega
      have HLT := Lib.hid hlt
      cases hq : keys.contains (list.getD j 0)
      · have hx := Lib.hid (rises_no (keys := keys) hlt (fun z => by rw [z.1] at hq; cases hq))
        rw [hq] at D
        clear hq hc gd
        generalize list.getD j 0 = y at D hcj
        go_wp2_with (go_at_call 85; ((with_reducible refine D.out.mono ?_); rintro e w1 ⟨⟨z, rfl⟩, hb⟩; have H1 := Lib.hid (HW.out.trans (hb.mono HW.out.size)); clear hb))
        go_ret
        exact ⟨by rw [hx.out]; rfl, H1.out⟩
      · rw [hq] at D
        by_cases hj0 : j = 0
        · subst hj0
          have hst := Lib.hid (good_step HG.out ⟨hq, fun z => by omega⟩)
          clear hq hc gd
          generalize list.getD 0 0 = y at D hcj
          have hcj0 : wr.cell? ⟨b, off, none⟩ = some (.int .i64 y) := hcj
          go_wp2_with (go_at_call 85; ((with_reducible refine D.out.mono ?_); rintro e w1 ⟨⟨z, rfl⟩, hb⟩; have H1 := Lib.hid (HW.out.trans (hb.mono HW.out.size)); clear hb))
          go_roundw
          case rel => exact ⟨1, by omega, rfl, hst.out, H1.out⟩
          case measure => simp [intOf]; omega
        · obtain ⟨i, rfl⟩ : ∃ i, j = i + 1 := ⟨j - 1, by omega⟩
          have hci := hc i (.int .i64 (list.getD i 0)) (by rw [List.getElem?_map, List.getElem?_eq_getElem (by omega), gd i (by omega)]; rfl)
          have hbk := Lib.hid (World.block_lt_of_cell? _ _ hci)
          have q0 : (0 : Int) ≤ (i : Int) := by omega
          have q1 : (i : Int) < (list.length : Int) := by omega
          have n4 : IntKind.i64.wrap ((i : Int) + 1 - 1) = (i : Int) := by rw [IntKind.wrap_i64] <;> omega
          have n5 : IntKind.i64.wrap (i : Int) = (i : Int) := by rw [IntKind.wrap_i64] <;> omega
          have n6 : decide ((0 : Int) < (i : Int) + 1) = true := decide_eq_true (by omega)
          have n7 : IntKind.i64.wrap ((i : Int) + 1 + 1) = (i : Int) + 1 + 1 := by rw [IntKind.wrap_i64] <;> omega
          have HCI := Lib.hid hci
          by_cases hlt2 : list.getD i 0 < list.getD (i + 1) 0
          · have hst := Lib.hid (good_step HG.out ⟨hq, fun _ => hlt2⟩)
            have t1 : decide (list.getD (i + 1) 0 ≤ list.getD i 0) = false := by simp only [decide_eq_false_iff_not]; omega
            clear hq hc gd hlt2 hci hj0
            generalize list.getD (i + 1) 0 = y at D hcj t1
            generalize list.getD i 0 = y0 at HCI t1
            go_wp2_with (go_at_call 85; ((with_reducible refine D.out.mono ?_); rintro e w1 ⟨⟨z, rfl⟩, hb⟩; have H1 := Lib.hid (HW.out.trans (hb.mono HW.out.size)); have ci := (hb.cell (p := ⟨b, off + i, none⟩) hbk.out).trans HCI.out; clear hb))
            go_roundw
            case rel => exact ⟨i + 1 + 1, by omega, by go_num, hst.out, H1.out⟩
            case measure => simp [intOf]; omega
          · have hx := Lib.hid (rises_no (keys := keys) hlt (fun z => hlt2 (z.2 (by omega))))
            have t1 : decide (list.getD (i + 1) 0 ≤ list.getD i 0) = true := by simp only [decide_eq_true_eq]; omega
            clear hq hc gd hlt2 hci hj0
            generalize list.getD (i + 1) 0 = y at D hcj t1
            generalize list.getD i 0 = y0 at HCI t1
            go_wp2_with (go_at_call 85; ((with_reducible refine D.out.mono ?_); rintro e w1 ⟨⟨z, rfl⟩, hb⟩; have H1 := Lib.hid (HW.out.trans (hb.mono HW.out.size)); have ci := (hb.cell (p := ⟨b, off + i, none⟩) hbk.out).trans HCI.out; clear hb))
            go_ret
            exact ⟨by rw [hx.out]; rfl, H1.out⟩
    · have hx := Lib.hid (rises_all (keys := keys) (l := list) (i := j) (by omega) HG.out)
      go_wp2
      go_ret
      exact ⟨by rw [hx.out]; rfl, HW.out⟩
theorem listed_any (c : Cl) (K : Option Addr) (m d : Nat) (keys : List Int) (w : World) (hm : m = keys.length) (hK : Sl w K (keys.map (Value.int .i64))) (hp : keys.Pairwise (· ≤ ·)) (h40 : keys.length ≤ 100000) (hL : Sl w c.A (c.list.map (Value.int .i64))) (hlb : c.list.length ≤ 9223372036854775807) :
    Calls Tryz.prog 58 #[c.val, .slice K m d] w fun e w' => e = .returned (.bool (listedB c keys)) ∧ Below w.heap.size w w' := by
  unfold listedB
  split
  · exact listed_len c K m d w ‹_›
  · have h := not_or.1 ‹_›
    exact listed_rises c K m d keys w (Classical.not_not.1 h.1) (by simpa using h.2) hm hK hp h40 hL hlb
/-- hist.Listed's function. -/
def notListed (keys : List Int) (c : Cl) : Bool := !openB c && !idleB c && !listedB c keys
set_option maxHeartbeats 8000000 in
set_option maxRecDepth 100000 in
theorem listed1_any (c : Cl) (p : Nat) (K : Option Addr) (d : Nat) (keys : List Int) (w : World) (hb : w.cell? ⟨p, 0, none⟩ = some (.slice K keys.length d)) (hK : Sl w K (keys.map (Value.int .i64))) (hp : keys.Pairwise (· ≤ ·)) (h40 : keys.length ≤ 100000) (hL : Sl w c.A (c.list.map (Value.int .i64))) (hlb : c.list.length ≤ 9223372036854775807) :
    Calls Tryz.prog 55 #[c.val, .pointer (some ⟨p, 0, none⟩)] w fun e w' => e = .returned (.bool (notListed keys c)) ∧ Below w.heap.size w w' := by
  have HA := Lib.hid ((Below.refl w.heap.size w).alloc (Nat.le_refl _) (bx c))
  have T : Hid (∀ W, Below (w.alloc (bx c)).heap.size (w.alloc (bx c)) W → At W w.heap.size 0 c ∧ W.cell? ⟨p, 0, none⟩ = some (.slice K keys.length d) ∧ Below w.heap.size w W) := Lib.hid fun W hW =>
    ⟨(at_box w c).below hW (Nat.le_refl _), ((HA.out.trans (hW.mono HA.out.size)).cell (p := ⟨p, 0, none⟩) (World.block_lt_of_cell? _ _ hb)).trans hb, HA.out.trans (hW.mono HA.out.size)⟩
  have HO : Hid (∀ W, Calls Tryz.prog 56 #[c.val] W fun e w' => e = .returned (.bool (openB c)) ∧ Below W.heap.size W w') := Lib.hid fun W => open_any c W
  have HI : Hid (∀ W, Calls Tryz.prog 57 #[c.val] W fun e w' => e = .returned (.bool (idleB c)) ∧ Below W.heap.size W w') := Lib.hid fun W => idle_any c W
  have HD : Hid (∀ W, Below w.heap.size w W → Calls Tryz.prog 58 #[c.val, .slice K keys.length d] W fun e w' => e = .returned (.bool (listedB c keys)) ∧ Below W.heap.size W w') := Lib.hid fun W hW => listed_any c K keys.length d keys W rfl (hK.below hW (Nat.le_refl _)) hp h40 (hL.below hW (Nat.le_refl _)) hlb
  clear hb hK hp hL
  unfold Cl.val at HO HI HD ⊢
  unfold bx at HA T
  unfold notListed
  generalize openB c = ob at *
  generalize idleB c = ib at *
  generalize listedB c keys = lb at *
  cases ob
  · cases ib
    · go_enter Tryz.func55, Tryz.ntmps55
      go_wp2_with (first
        | (go_at_call 56; ((with_reducible refine (HO.out _).mono ?_); rintro e w1 ⟨rfl, hb⟩; have H1 := Lib.hid hb; obtain ⟨⟨c0, c1, c2, c3, c4, c5, c6, c7, c8, c9, c10, c11, c12⟩, cp, hw1⟩ := T.out _ hb; clear hb hw1))
        | (go_at_call 57; ((with_reducible refine (HI.out _).mono ?_); rintro e w2 ⟨rfl, hb⟩; clear c0 c1 c2 c3 c4 c5 c6 c7 c8 c9 c10 c11 c12 cp; have H2 := Lib.hid (H1.out.trans (hb.mono H1.out.size)); obtain ⟨⟨c0, c1, c2, c3, c4, c5, c6, c7, c8, c9, c10, c11, c12⟩, cp, hw2⟩ := T.out _ H2.out; have HW2 := Lib.hid hw2; have D3 := Lib.hid (HD.out _ hw2); clear hb hw2))
        | (go_at_call 58; ((with_reducible refine D3.out.mono ?_); rintro e w3 ⟨rfl, hb⟩; have HW3 := Lib.hid (HW2.out.trans (hb.mono HW2.out.size)); clear hb)))
      go_ret
      exact ⟨rfl, HW3.out⟩
    · go_enter Tryz.func55, Tryz.ntmps55
      go_wp2_with (first
        | (go_at_call 56; ((with_reducible refine (HO.out _).mono ?_); rintro e w1 ⟨rfl, hb⟩; have H1 := Lib.hid hb; obtain ⟨⟨c0, c1, c2, c3, c4, c5, c6, c7, c8, c9, c10, c11, c12⟩, cp, hw1⟩ := T.out _ hb; clear hb hw1))
        | (go_at_call 57; ((with_reducible refine (HI.out _).mono ?_); rintro e w2 ⟨rfl, hb⟩; have H2 := Lib.hid (H1.out.trans (hb.mono H1.out.size)); have HW2 := Lib.hid (T.out _ H2.out).2.2; clear hb)))
      go_ret
      exact ⟨rfl, HW2.out⟩
  · go_enter Tryz.func55, Tryz.ntmps55
    go_wp2_with (go_at_call 56; ((with_reducible refine (HO.out _).mono ?_); rintro e w1 ⟨rfl, hb⟩; have HW1 := Lib.hid (T.out _ hb).2.2; clear hb))
    go_ret
    exact ⟨rfl, HW1.out⟩
set_option maxHeartbeats 8000000 in
theorem listedH_any (A : Option Addr) (c n : Nat) (l : List Cl) (w : World) (hn : n = l.length) (hl : Cls w A l) (h40 : l.length ≤ 1000) (hb : ∀ a ∈ l, a.list.length ≤ 9223372036854775807) :
    Calls Tryz.prog 34 #[.slice A n c] w fun e w' => e = .returned (.bool (!l.any (notListed (keysOf l)))) ∧ Below w.heap.size w w' := by
  subst hn
  have DK := Lib.hid (keys_any A c l.length l w rfl hl h40)
  have HKL := Lib.hid (keys_len l)
  have HP := Lib.hid (keys_pair l)
  have HL := Lib.hid hl
  have HB := Lib.hid hb
  clear hl hb
  generalize keysOf l = keys at DK HKL HP ⊢
  have hkl := HKL.out
  go_enter Tryz.func34, Tryz.ntmps34
  go_wp2_with (first
    | (go_at_call 53; ((with_reducible refine DK.out.mono ?_); rintro e w1 ⟨K, d, rfl, hok, hb1⟩; have H1 := Lib.hid (hb1.alloc hb1.size (.cells #[.slice K keys.length d] 33)); have HS := Lib.hid ((own_sl hok).below ((Below.refl w1.heap.size w1).alloc (Nat.le_refl _) (.cells #[.slice K keys.length d] 33)) (Nat.le_refl _)); have hcell : (w1.alloc (.cells #[.slice K keys.length d] 33)).cell? ⟨w1.heap.size, 0, none⟩ = some (.slice K keys.length d) := (World.cell?_alloc_new _ _ _ _).trans rfl; have D2 := Lib.hid (contains_any 55 #[.pointer (some ⟨w1.heap.size, 0, none⟩)] call33 (notListed keys) A c l.length l (w1.alloc (.cells #[.slice K keys.length d] 33)) rfl (HL.out.below H1.out (Nat.le_refl _)) h40 (fun W a ha hW => listed1_any a w1.heap.size K d keys W ((hW.cell (p := ⟨w1.heap.size, 0, none⟩) (World.block_lt_of_cell? _ _ hcell)).trans hcell) (HS.out.below hW (Nat.le_refl _)) HP.out (Nat.le_trans hkl (Nat.le_trans (Nat.mul_le_mul_left 2 h40) (by decide))) ((HL.out.1 a ha).below (H1.out.trans (hW.mono H1.out.size)) (Nat.le_refl _)) (HB.out a ha))); clear hok hb1 hcell))
    | (go_at_call 54; ((with_reducible refine D2.out.mono ?_); rintro e w2 ⟨rfl, hb⟩; have H2 := Lib.hid (H1.out.trans (hb.mono H1.out.size)); clear hb)))
  go_ret
  exact ⟨rfl, H2.out⟩
end Go.Proofs.YtpdfmfkoopdfgaaGreatDoor.Hs
end
section
namespace Go.Proofs.YtpdfmfkoopdfgaaGreatDoor.Hs
set_option maxRecDepth 100000
open Go.RowKit Aid

theorem compact_lt {zs : List Int} (h : zs.Pairwise (· ≤ ·)) : (Lib.compact zs).Pairwise (· < ·) := by
  unfold Lib.compact Lib.compactUpTo
  rw [List.pairwise_map]
  have hr : (List.range zs.length).Pairwise (· < ·) := List.pairwise_lt_range
  refine List.Pairwise.imp_of_mem ?_ (hr.filter _)
  intro a b ha hb hab
  have h1 := List.mem_range.1 (List.mem_filter.1 ha).1
  have h2 := List.mem_range.1 (List.mem_filter.1 hb).1
  have hk : b = 0 ∨ zs.toArray[b]! ≠ zs.toArray[b - 1]! := of_decide_eq_true (List.mem_filter.1 hb).2
  have hb0 : b - 1 < zs.length := by omega
  rw [getElem!_pos zs.toArray b (by simpa using h2), getElem!_pos zs.toArray (b - 1) (by simpa using hb0)] at hk
  rw [getElem!_pos _ _ (by simpa using h1), getElem!_pos _ _ (by simpa using h2)]
  have g : ∀ i j (hi : i < zs.length) (hj : j < zs.length), i ≤ j → zs[i] ≤ zs[j] := fun i j hi hj hij => by
    rcases Nat.lt_or_ge i j with q | q
    · exact List.pairwise_iff_getElem.1 h i j hi hj q
    · obtain rfl : i = j := by omega
      exact Int.le_refl _
  have g1 := g a (b - 1) h1 hb0 (by omega)
  have g2 := g (b - 1) b hb0 h2 (by omega)
  simp only [List.getElem_toArray] at hk ⊢
  have hne : zs[b] ≠ zs[b - 1] := hk.resolve_left (by omega)
  omega
theorem upto_mem {zs : List Int} : ∀ m, m ≤ zs.length → ∀ j, j < m → zs.toArray[j]! ∈ Lib.compactUpTo zs.toArray m
  | 0, _, _, hj => by omega
  | m + 1, hm, j, hj => by
    rw [Lib.compactUpTo_succ]
    rcases Nat.lt_or_ge j m with q | q
    · exact List.mem_append_left _ (upto_mem m (by omega) j q)
    · obtain rfl : j = m := by omega
      cases hk : Lib.keeps zs.toArray j
      · have hk' : ¬ (j = 0 ∨ zs.toArray[j]! ≠ zs.toArray[j - 1]!) := of_decide_eq_false hk
        have h0 : j ≠ 0 := fun e => hk' (.inl e)
        have he : zs.toArray[j]! = zs.toArray[j - 1]! := Classical.not_not.1 fun e => hk' (.inr e)
        rw [he]
        exact List.mem_append_left _ (upto_mem j (by omega) (j - 1) (by omega))
      · rw [if_pos rfl]
        exact List.mem_append_right _ (List.mem_singleton.2 rfl)
theorem mem_compact {zs : List Int} {x : Int} : x ∈ Lib.compact zs ↔ x ∈ zs := by
  constructor
  · intro h
    unfold Lib.compact Lib.compactUpTo at h
    obtain ⟨j, hj, rfl⟩ := List.mem_map.1 h
    have h1 := List.mem_range.1 (List.mem_filter.1 hj).1
    rw [getElem!_pos _ _ (by simpa using h1)]
    simp
  · intro h
    obtain ⟨j, hj, rfl⟩ := List.mem_iff_getElem.1 h
    have := upto_mem zs.length (Nat.le_refl _) j hj
    rw [getElem!_pos _ _ (by simpa using hj)] at this
    unfold Lib.compact
    simpa using this
theorem mem_uniq {zs : List Int} {x : Int} : x ∈ uniq zs ↔ x ∈ zs := by
  unfold uniq
  rw [mem_compact]
  exact (List.mergeSort_perm zs _).mem_iff
theorem uniq_lt (zs : List Int) : (uniq zs).Pairwise (· < ·) := compact_lt (sorted_pair _)
/-- Two strictly rising rows of the same members are the same. -/
theorem rise_eq : ∀ {xs ys : List Int}, xs.Pairwise (· < ·) → ys.Pairwise (· < ·) → (∀ x, x ∈ xs ↔ x ∈ ys) → xs = ys
  | [], [], _, _, _ => rfl
  | [], y :: ys, _, _, h => absurd ((h y).2 (List.mem_cons_self ..)) (by simp)
  | x :: xs, [], _, _, h => absurd ((h x).1 (List.mem_cons_self ..)) (by simp)
  | x :: xs, y :: ys, h1, h2, h => by
    obtain ⟨a1, b1⟩ := List.pairwise_cons.1 h1
    obtain ⟨a2, b2⟩ := List.pairwise_cons.1 h2
    have hxy : x = y := by
      rcases List.mem_cons.1 ((h x).1 (List.mem_cons_self ..)) with e | e
      · exact e
      rcases List.mem_cons.1 ((h y).2 (List.mem_cons_self ..)) with e' | e'
      · exact e'.symm
      have := a1 y e'
      have := a2 x e
      omega
    subst hxy
    congr 1
    refine rise_eq b1 b2 fun z => ⟨fun hz => ?_, fun hz => ?_⟩
    · rcases List.mem_cons.1 ((h z).1 (List.mem_cons_of_mem _ hz)) with rfl | e
      · have := a1 z hz; omega
      · exact e
    · rcases List.mem_cons.1 ((h z).2 (List.mem_cons_of_mem _ hz)) with rfl | e
      · have := a2 z hz; omega
      · exact e
/-- How many points are yes, behind the first one. -/
def yesN (qs : List Pt) (m : Nat) : Nat := ((qs.take m).tail.filter (·.is)).length
end Go.Proofs.YtpdfmfkoopdfgaaGreatDoor.Hs
end
section
namespace Go.Proofs.YtpdfmfkoopdfgaaGreatDoor.Hs
set_option maxRecDepth 100000
open Go.RowKit Aid

/-- A slice's length. -/
def lenOf : Value → Nat
  | .slice _ n _ => n
  | _ => 0
/-- A slice outside the row that grows. -/
theorem sl_grown {w w' : World} {row : Option Nat} {A : Option Addr} {xs : List Value} (h : Sl w A xs) (hg : w.grownBy w' row) (hne : ∀ a, A = some a → row ≠ some a.block) : Sl w' A xs := fun hp => by
  obtain ⟨b, off, hA, hc⟩ := h hp
  exact ⟨b, off, hA, fun j u hu => hg.cell (hc j u hu) (fun e => hne _ hA e.symm)⟩
/-- What the rounds keep: what was taken out rises, lies below the rest, and both are the row. -/
structure KeyInv (zs O A : List Int) : Prop where
  rise : O.Pairwise (· < ·)
  low : ∀ x ∈ O, ∀ y ∈ A, x < y
  mem : ∀ x, x ∈ zs ↔ x ∈ O ∨ x ∈ A
theorem KeyInv.start (zs : List Int) : KeyInv zs [] zs := ⟨List.Pairwise.nil, fun _ h => by simp at h, fun x => by simp⟩
theorem KeyInv.next {zs O A : List Int} (h : KeyInv zs O A) {y : Int} (hy : y ∈ A) (hl : ∀ x ∈ A, y ≤ x) : KeyInv zs (O ++ [y]) (A.filter (fun x => decide (y < x))) := by
  refine ⟨?_, ?_, ?_⟩
  · rw [List.pairwise_append]
    exact ⟨h.rise, List.pairwise_singleton _ _, fun x hx z hz => by rw [List.mem_singleton.1 hz]; exact h.low x hx y hy⟩
  · intro x hx z hz
    have hz2 : y < z := by simpa using (List.mem_filter.1 hz).2
    rcases List.mem_append.1 hx with q | q
    · exact h.low x q z (List.mem_filter.1 hz).1
    · rw [List.mem_singleton.1 q]; exact hz2
  · intro x
    rw [h.mem x, List.mem_append, List.mem_singleton, List.mem_filter]
    constructor
    · rintro (q | q)
      · exact .inl (.inl q)
      · rcases Int.lt_or_le y x with z | z
        · exact .inr ⟨q, by simpa using z⟩
        · exact .inl (.inr (by have := hl x q; omega))
    · rintro ((q | q) | q)
      · exact .inl q
      · rw [q]; exact .inr hy
      · exact .inr q.1
theorem KeyInv.done {zs O : List Int} (h : KeyInv zs O []) : O = uniq zs :=
  rise_eq h.rise (uniq_lt zs) fun x => by rw [mem_uniq, h.mem x]; simp
theorem filter_less {A : List Int} {y : Int} (hy : y ∈ A) : (A.filter (fun x => decide (y < x))).length < A.length := by
  refine List.length_filter_lt_length_iff_exists.2 ⟨y, hy, by simp⟩
theorem filt_step {A : List Int} {y : Int} {j : Nat} {x : Int} (h : A[j]? = some x) : (A.take (j + 1)).filter (fun x => decide (y < x)) = (A.take j).filter (fun x => decide (y < x)) ++ (if decide (y < x) then [x] else []) := by
  obtain ⟨hl, he⟩ := List.getElem?_eq_some_iff.1 h
  rw [List.take_succ_eq_append_getElem hl, List.filter_append, he]
  cases hq : decide (y < x) <;> simp [hq]
set_option maxHeartbeats 16000000 in
set_option maxRecDepth 100000 in
theorem rKeys_any (A : Option Addr) (c n : Nat) (l : List Cl) (w : World) (hn : n = l.length) (hl : Cls w A l) (h40 : l.length ≤ 12) :
    Calls Tryz.prog 45 #[.slice A n c] w fun e w' => ∃ B d, e = .returned (.slice B (keysOf l).length d) ∧ Sl w' B ((keysOf l).map (Value.int .i64)) ∧ Below w.heap.size w w' := by
  subst hn
  have HL := Lib.hid hl
  clear hl
  obtain ⟨i0, hi0, hz0, hz1, hz2⟩ := info_parts int_info
  have hone : Hid (∀ z : Int, ∀ u ∈ [Value.int .i64 z], u.oneCell' = true) := fun z u hu => by rw [List.mem_singleton.1 hu]; rfl
  go_enter Tryz.func45, Tryz.ntmps45
  go_wp2
  go_loopw [3, 4] (fun v j wr => ∃ k : Nat, k ≤ l.length ∧ j = .int .i64 k ∧ wr.ownsRow w.heap.size 3 1 v (namesOf (l.take k)).length ((namesOf (l.take k)).map (Value.int .i64)) ∧ Below w.heap.size w wr) (fun _ j _ => l.length - (intOf j).toNat)
  case atStart => exact ⟨0, Nat.zero_le _, rfl, World.ownsRow_nil _ _ _ _, Below.refl _ _⟩
  case round =>
    obtain ⟨k, hk, rfl, ho, hb⟩ := hrel
    obtain ⟨T, tc, hT⟩ := own_any ho
    subst hT
    have HO := Lib.hid ho
    have HB := Lib.hid hb
    clear ho hb
    obtain ⟨w0, hw0⟩ : ∃ w0, w0 = wr := ⟨_, rfl⟩
    subst hw0
    by_cases hlt : k < l.length
    · obtain ⟨a, hal⟩ : ∃ a, l[k]? = some a := ⟨l[k], List.getElem?_eq_getElem hlt⟩
      obtain ⟨p, off, hA, _⟩ := HL.out.get hal
      subst hA
      have AT : Hid (∀ W, Below w.heap.size w W → At W p (off + k * 13) a) := Lib.hid fun W hW => by
        obtain ⟨p', o', hA, h⟩ := (HL.out.below hW (Nat.le_refl _)).get hal
        cases hA; exact h
      have HN : Hid (namesOf (l.take (k + 1)) = namesOf (l.take k) ++ (if edgeB a.k then [a.u, a.v] else [a.u])) := Lib.hid (by rw [names_next hlt, (List.getElem?_eq_some_iff.1 hal).2])
      have hle := names_le (l.take k)
      have hle2 : (l.take k).length ≤ k := by rw [List.length_take]; omega
      clear hal
      generalize namesOf (l.take k) = nr at HO HN hle
      have k0 : (0 : Int) ≤ (k : Int) := by omega
      have k1 : (k : Int) < (l.length : Int) := by omega
      have n3 : IntKind.i64.wrap ((k : Int) + 1) = (k : Int) + 1 := by rw [IntKind.wrap_i64] <;> omega
      have m1 : nr.length + 1 ≤ maxLen := by unfold maxLen; omega
      have y1 : (nr.length + 1) * 8 ≤ 140737488355328 := by omega
      have m2 : nr.length + 1 + 1 ≤ maxLen := by unfold maxLen; omega
      have y2 : (nr.length + 1 + 1) * 8 ≤ 140737488355328 := by omega
      clear hle hle2
      have HA := Lib.hid (HB.out.alloc HB.out.size (.cells #[.int .i64 a.u] 3))
      have HOA := Lib.hid (HO.out.alloc (.cells #[.int .i64 a.u] 3))
      have HS1 := Lib.hid (one_sl w0 (.int .i64 a.u) 3)
      obtain ⟨c0, c1, c2, c3, c4, c5, c6, c7, c8, c9, c10, c11, c12⟩ := AT.out _ HB.out
      by_cases h14 : 14 ≤ a.k
      · have t1 : decide (14 ≤ a.k) = true := decide_eq_true h14
        by_cases h16 : a.k ≤ 16
        · have t2 : decide (a.k ≤ 16) = true := decide_eq_true h16
          have he := Lib.hid (show edgeB a.k = true from decide_eq_true ⟨h14, h16⟩)
          clear h14 h16
          go_wp2_with (first
            | (at_builtin
               refine wpList_append_sl _ rfl (.tmp 16) (.tmp 23) 33 rfl w.heap.size 3 i0 _ 1 8 Tryz.underlying33 hi0 hz0 hz1 hz2 rfl Nat.one_pos _ nr.length _ rfl HOA.out (some ⟨w0.heap.size, 0, none⟩) 1 1 [.int .i64 a.u] rfl rfl HS1.out (hone.out _) m1 y1 HA.out.size (nr.length + 1) rfl ?_
               intro A5 c5' w5 hown5 hb5 _ _
               have HO5 := Lib.hid hown5
               have HB5 := Lib.hid (HA.out.trans hb5)
               clear hown5 hb5 c0 c1 c2 c3 c4 c5 c6 c7 c8 c9 c10 c11 c12
               obtain ⟨c0, c1, c2, c3, c4, c5, c6, c7, c8, c9, c10, c11, c12⟩ := AT.out _ HB5.out
               have HS2 := Lib.hid (one_sl w5 (.int .i64 a.v) 3)
               have HB6 := Lib.hid (HB5.out.alloc HB5.out.size (.cells #[.int .i64 a.v] 3))
               have HO6 := Lib.hid (HO5.out.alloc (.cells #[.int .i64 a.v] 3)))
            | (at_builtin
               refine wpList_append_sl _ rfl (.tmp 41) (.tmp 48) 33 rfl w.heap.size 3 i0 _ 1 8 Tryz.underlying33 hi0 hz0 hz1 hz2 rfl Nat.one_pos _ (nr.length + 1) _ rfl HO6.out (some ⟨w5.heap.size, 0, none⟩) 1 1 [.int .i64 a.v] rfl rfl HS2.out (hone.out _) m2 y2 HB6.out.size (nr.length + 1 + 1) rfl ?_
               intro A7 c7' w7 hown7 hb7 _ _
               have HO7 := Lib.hid hown7
               have HB7 := Lib.hid (HB6.out.trans hb7)
               clear hown7 hb7))
          go_roundw
          case rel => exact ⟨k + 1, by omega, by go_num, by rw [HN.out, show edgeB a.k = true from he.out]; simpa using HO7.out, HB7.out⟩
          case measure => simp [intOf]; omega
        · have t2 : decide (a.k ≤ 16) = false := decide_eq_false h16
          have he := Lib.hid (show edgeB a.k = false from decide_eq_false (fun z => h16 z.2))
          clear h14 h16
          go_wp2_with (first
            | (at_builtin
               refine wpList_append_sl _ rfl (.tmp 16) (.tmp 23) 33 rfl w.heap.size 3 i0 _ 1 8 Tryz.underlying33 hi0 hz0 hz1 hz2 rfl Nat.one_pos _ nr.length _ rfl HOA.out (some ⟨w0.heap.size, 0, none⟩) 1 1 [.int .i64 a.u] rfl rfl HS1.out (hone.out _) m1 y1 HA.out.size (nr.length + 1) rfl ?_
               intro A5 c5' w5 hown5 hb5 _ _
               have HO5 := Lib.hid hown5
               have HB5 := Lib.hid (HA.out.trans hb5)
               clear hown5 hb5 c0 c1 c2 c3 c4 c5 c6 c7 c8 c9 c10 c11 c12
               obtain ⟨c0, c1, c2, c3, c4, c5, c6, c7, c8, c9, c10, c11, c12⟩ := AT.out _ HB5.out
               have HS2 := Lib.hid (one_sl w5 (.int .i64 a.v) 3)
               have HB6 := Lib.hid (HB5.out.alloc HB5.out.size (.cells #[.int .i64 a.v] 3))
               have HO6 := Lib.hid (HO5.out.alloc (.cells #[.int .i64 a.v] 3))))
          go_roundw
          case rel => exact ⟨k + 1, by omega, by go_num, by rw [HN.out, show edgeB a.k = false from he.out]; simpa using HO5.out, HB5.out⟩
          case measure => simp [intOf]; omega
      · have t1 : decide (14 ≤ a.k) = false := decide_eq_false h14
        have he := Lib.hid (show edgeB a.k = false from decide_eq_false (fun z => h14 z.1))
        clear h14
        · skip
          go_wp2_with (first
            | (at_builtin
               refine wpList_append_sl _ rfl (.tmp 16) (.tmp 23) 33 rfl w.heap.size 3 i0 _ 1 8 Tryz.underlying33 hi0 hz0 hz1 hz2 rfl Nat.one_pos _ nr.length _ rfl HOA.out (some ⟨w0.heap.size, 0, none⟩) 1 1 [.int .i64 a.u] rfl rfl HS1.out (hone.out _) m1 y1 HA.out.size (nr.length + 1) rfl ?_
               intro A5 c5' w5 hown5 hb5 _ _
               have HO5 := Lib.hid hown5
               have HB5 := Lib.hid (HA.out.trans hb5)
               clear hown5 hb5 c0 c1 c2 c3 c4 c5 c6 c7 c8 c9 c10 c11 c12
               obtain ⟨c0, c1, c2, c3, c4, c5, c6, c7, c8, c9, c10, c11, c12⟩ := AT.out _ HB5.out
               have HS2 := Lib.hid (one_sl w5 (.int .i64 a.v) 3)
               have HB6 := Lib.hid (HB5.out.alloc HB5.out.size (.cells #[.int .i64 a.v] 3))
               have HO6 := Lib.hid (HO5.out.alloc (.cells #[.int .i64 a.v] 3))))
          go_roundw
          case rel => exact ⟨k + 1, by omega, by go_num, by rw [HN.out, show edgeB a.k = false from he.out]; simpa using HO5.out, HB5.out⟩
          case measure => simp [intOf]; omega
    · obtain rfl : k = l.length := by omega
      rw [List.take_length] at HO ⊢
      have hle := names_le l
      have HK : Hid (keysOf l = uniq (namesOf l)) := Lib.hid rfl
      generalize namesOf l = zs at HO hle HK
      have HZ : zs.length ≤ 24 := by omega
      clear hle HL
      go_wp2
      go_loopw [3, 5] (fun v ov wr => ∃ T tc A O, v = .slice T A.length tc ∧ Sl wr T (A.map (Value.int .i64)) ∧ wr.ownsRow w.heap.size 3 1 ov O.length (O.map (Value.int .i64)) ∧ (∀ x, T = some x → ov.ownBlock ≠ some x.block) ∧ KeyInv zs O A ∧ O.length + A.length ≤ 24 ∧ Below w.heap.size w wr) (fun v _ _ => lenOf v)
      case atStart => exact ⟨T, tc, zs, [], rfl, own_sl HO.out, World.ownsRow_nil _ _ _ _, (fun _ _ => by simp [Value.ownBlock]), KeyInv.start zs, by simpa using HZ, HB.out⟩
      case round =>
        clear HO HB HZ
        obtain ⟨T, tc, A, O, rfl, hs, ho, hd, hinv, hlen, hb⟩ := hrel
        obtain ⟨U, uc, hU⟩ := own_any ho
        subst hU
        have HS := Lib.hid hs
        have HO := Lib.hid ho
        have HD := Lib.hid hd
        have HI := Lib.hid hinv
        have HB := Lib.hid hb
        clear hs ho hd hinv hb
        obtain ⟨w0, hw0⟩ : ∃ w0, w0 = wr := ⟨_, rfl⟩
        subst hw0
        by_cases h0 : 0 < A.length
        · have t0 : (0 : Int) < (A.length : Int) := by omega
          have t0' : decide ((0 : Int) < (A.length : Int)) = true := decide_eq_true t0
          have t0'' : decide (0 < A.length) = true := decide_eq_true h0
          obtain ⟨b, off, hT, hc⟩ := HS.out (by rw [List.length_map]; omega)
          subst hT
          have CJ : Hid (∀ W, Sl W (some ⟨b, off, none⟩) (A.map (Value.int .i64)) → ∀ j x, A[j]? = some x → W.cell? ⟨b, off + j, none⟩ = some (.int .i64 x)) := Lib.hid fun W hW j x hx => by
            obtain ⟨b', off', e, h⟩ := hW (by rw [List.length_map]; omega)
            cases e
            exact h j _ (by rw [List.getElem?_map, hx]; rfl)
          have h00 := CJ.out _ HS.out 0 A[0] (List.getElem?_eq_getElem h0)
          rw [Nat.add_zero] at h00
          have HM0 := Lib.hid (List.getElem_mem h0)
          clear hc
          generalize A[0] = y0 at h00 HM0
          go_wp2
          go_loopw [6, 7] (fun v u wr => ∃ (j : Nat) (y : Int), j ≤ A.length ∧ v = .int .i64 y ∧ u = .int .i64 j ∧ y ∈ A ∧ (∀ i x, i < j → A[i]? = some x → y ≤ x) ∧ wr = w0) (fun _ u _ => A.length - (intOf u).toNat)
          case atStart => exact ⟨0, y0, Nat.zero_le _, rfl, rfl, HM0.out, fun i x hi => by omega, rfl⟩
          case round =>
            clear h00 HM0
            obtain ⟨j, y, hj, rfl, rfl, hy, hlo, rfl⟩ := hrel
            have HY := Lib.hid hy
            have HLO := Lib.hid hlo
            clear hy hlo
            by_cases hlj : j < A.length
            · have j0 : (0 : Int) ≤ (j : Int) := by omega
              have j1 : (j : Int) < (A.length : Int) := by omega
              have n5 : IntKind.i64.wrap ((j : Int) + 1) = (j : Int) + 1 := by rw [IntKind.wrap_i64] <;> omega
              obtain ⟨x, hx⟩ : ∃ x, A[j]? = some x := ⟨A[j], List.getElem?_eq_getElem hlj⟩
              have cx := CJ.out _ HS.out j x hx
              have HX := Lib.hid hx
              clear hx
              by_cases hxy : x < y
              · have t1 : decide (x < y) = true := decide_eq_true hxy
                have hst : Hid (∀ i z, i < j + 1 → A[i]? = some z → x ≤ z) := Lib.hid fun i z hi hz => by
                  rcases Nat.lt_or_ge i j with q | q
                  · have := HLO.out i z q hz; omega
                  · obtain rfl : i = j := by omega
                    have := HX.out.symm.trans hz; injection this with this; omega
                have hm := Lib.hid (List.mem_of_getElem? HX.out)
                clear hxy
                go_wp2
                go_roundw
                case rel => exact ⟨j + 1, x, by omega, rfl, by go_num, hm.out, hst.out, by first | rfl | trivial⟩
                case measure => simp [intOf]; omega
              · have t1 : decide (x < y) = false := decide_eq_false hxy
                have hst : Hid (∀ i z, i < j + 1 → A[i]? = some z → y ≤ z) := Lib.hid fun i z hi hz => by
                  rcases Nat.lt_or_ge i j with q | q
                  · exact HLO.out i z q hz
                  · obtain rfl : i = j := by omega
                    have := HX.out.symm.trans hz; injection this with this; omega
                clear hxy
                go_wp2
                go_roundw
                case rel => exact ⟨j + 1, y, by omega, rfl, by go_num, HY.out, hst.out, by first | rfl | trivial⟩
                case measure => simp [intOf]; omega
            · obtain rfl : j = A.length := by omega
              have HLE : Hid (∀ x ∈ A, y ≤ x) := Lib.hid fun x hx => by
                obtain ⟨i, hi, he⟩ := List.mem_iff_getElem.1 hx
                exact HLO.out i x hi (by rw [List.getElem?_eq_getElem hi, he])
              have HI2 := Lib.hid (HI.out.next HY.out HLE.out)
              have HLS := Lib.hid (filter_less HY.out)
              have m1 : O.length + 1 ≤ maxLen := by unfold maxLen; omega
              have y1 : (O.length + 1) * 8 ≤ 140737488355328 := by omega
              have HA := Lib.hid (HB.out.alloc HB.out.size (.cells #[.int .i64 y] 3))
              have HOA := Lib.hid (HO.out.alloc (.cells #[.int .i64 y] 3))
              have HS1 := Lib.hid (one_sl wr (.int .i64 y) 3)
              have HSA := Lib.hid (HS.out.below ((Below.refl wr.heap.size wr).alloc (Nat.le_refl _) (.cells #[.int .i64 y] 3)) (Nat.le_refl _))
              clear HLO HLE HI HY hlj
              go_wp2_with (first
                | (at_builtin
                   refine wpList_append_sl _ rfl (.tmp 72) (.tmp 74) 33 rfl w.heap.size 3 i0 _ 1 8 Tryz.underlying33 hi0 hz0 hz1 hz2 rfl Nat.one_pos _ O.length _ rfl HOA.out (some ⟨wr.heap.size, 0, none⟩) 1 1 [.int .i64 y] rfl rfl HS1.out (hone.out _) m1 y1 HA.out.size (O.length + 1) rfl ?_
                   intro A5 c5' w5 hown5 hb5 hg5 _
                   have HO5 := Lib.hid hown5
                   have HB5 := Lib.hid (HA.out.trans hb5)
                   have HS5 := Lib.hid (sl_grown HSA.out hg5 HD.out)
                   clear hown5 hb5 hg5))
              go_loopw [8, 9] (fun v u wr => ∃ j : Nat, j ≤ A.length ∧ u = .int .i64 j ∧ wr.ownsRow w5.heap.size 3 1 v ((A.take j).filter (fun x => decide (y < x))).length (((A.take j).filter (fun x => decide (y < x))).map (Value.int .i64)) ∧ Below w5.heap.size w5 wr) (fun _ u _ => A.length - (intOf u).toNat)
              case atStart => exact ⟨0, Nat.zero_le _, rfl, World.ownsRow_nil _ _ _ _, Below.refl _ _⟩
              case round =>
                obtain ⟨j, hj, rfl, ho, hb⟩ := hrel
                obtain ⟨R, rc, hR⟩ := own_any ho
                subst hR
                have HR := Lib.hid ho
                have HC := Lib.hid hb
                clear ho hb
                obtain ⟨w6, hw6⟩ : ∃ w6, w6 = wr := ⟨_, rfl⟩
                subst hw6
                have HS6 := Lib.hid (HS5.out.below HC.out (Nat.le_refl _))
                by_cases hlj : j < A.length
                · have j0 : (0 : Int) ≤ (j : Int) := by omega
                  have j1 : (j : Int) < (A.length : Int) := by omega
                  have n5 : IntKind.i64.wrap ((j : Int) + 1) = (j : Int) + 1 := by rw [IntKind.wrap_i64] <;> omega
                  obtain ⟨x, hx⟩ : ∃ x, A[j]? = some x := ⟨A[j], List.getElem?_eq_getElem hlj⟩
                  have cx := CJ.out _ HS6.out j x hx
                  have FS := Lib.hid (filt_step (y := y) hx)
                  have hfl := List.length_filter_le (fun x => decide (y < x)) (A.take j)
                  rw [List.length_take] at hfl
                  clear hx
                  generalize (A.take j).filter (fun x => decide (y < x)) = fr at HR FS hfl
                  by_cases hxy : y < x
                  · have t1 : decide (y < x) = true := decide_eq_true hxy
                    rw [t1] at FS
                    have m3 : fr.length + 1 ≤ maxLen := by unfold maxLen; omega
                    have y3 : (fr.length + 1) * 8 ≤ 140737488355328 := by omega
                    have HS7 := Lib.hid (one_sl w6 (.int .i64 x) 3)
                    have HC7 := Lib.hid (HC.out.alloc HC.out.size (.cells #[.int .i64 x] 3))
                    have HR7 := Lib.hid (HR.out.alloc (.cells #[.int .i64 x] 3))
                    clear hxy hfl
                    go_wp2_with (first
                      | (at_builtin
                         refine wpList_append_sl _ rfl (.tmp 88) (.tmp 93) 33 rfl w5.heap.size 3 i0 _ 1 8 Tryz.underlying33 hi0 hz0 hz1 hz2 rfl Nat.one_pos _ fr.length _ rfl HR7.out (some ⟨w6.heap.size, 0, none⟩) 1 1 [.int .i64 x] rfl rfl HS7.out (hone.out _) m3 y3 HC7.out.size (fr.length + 1) rfl ?_
                         intro A8 c8' w8 hown8 hb8 _ _
                         have HR8 := Lib.hid hown8
                         have HC8 := Lib.hid (HC7.out.trans hb8)
                         clear hown8 hb8))
                    go_roundw
                    case rel => exact ⟨j + 1, by omega, by go_num, by rw [FS.out]; simpa using HR8.out, HC8.out⟩
                    case measure => simp [intOf]; omega
                  · have t1 : decide (y < x) = false := decide_eq_false hxy
                    rw [t1] at FS
                    clear hxy hfl
                    go_wp2
                    go_roundw
                    case rel => exact ⟨j + 1, by omega, by go_num, by rw [FS.out]; simpa using HR.out, HC.out⟩
                    case measure => simp [intOf]; omega
                · obtain rfl : j = A.length := by omega
                  rw [List.take_length] at HR ⊢
                  have HO6 := Lib.hid (row_below HO5.out HC.out (Nat.le_refl _))
                  have HB6 := Lib.hid (HB5.out.trans (HC.out.mono HB5.out.size))
                  have HSR := Lib.hid (own_sl HR.out)
                  have hls := HLS.out
                  have HNE : Hid (∀ x, R = some x → (Value.slice A5 (O.length + 1) c5').ownBlock ≠ some x.block) := Lib.hid fun x hx e => by
                    have h1 := (HO5.out.lt _ e).2
                    have h2 := (HR.out.lt x.block (by rw [hx]; rfl)).1
                    omega
                  generalize A.filter (fun x => decide (y < x)) = fr at HR HI2 HSR hls
                  go_wp2
                  go_roundw
                  case rel => exact ⟨R, rc, fr, O ++ [y], rfl, HSR.out, by simpa using HO6.out, by simpa using HNE.out, HI2.out, by rw [List.length_append]; simp; omega, HB6.out⟩
                  case measure => simp [lenOf]; omega
        · obtain rfl : A = [] := List.eq_nil_of_length_eq_zero (by omega)
          have hO := Lib.hid HI.out.done
          have HSO := Lib.hid (own_sl HO.out)
          have e1 := hO.out
          subst e1
          go_wp2
          go_ret
          rw [HK.out]
          exact ⟨_, ⟨_, rfl⟩, HSO.out, HB.out⟩
end Go.Proofs.YtpdfmfkoopdfgaaGreatDoor.Hs
end
