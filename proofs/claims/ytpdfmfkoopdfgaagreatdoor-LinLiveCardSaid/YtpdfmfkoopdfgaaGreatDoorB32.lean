/- HListed, HPtsPlain. -/
import Derived.Test.YtpdfmfkoopdfgaaGreatDoorB31
set_option linter.unusedVariables false
set_option linter.unusedSimpArgs false
section
namespace Go.Proofs.YtpdfmfkoopdfgaaGreatDoor.Hs
set_option maxRecDepth 100000
open Go.RowKit Aid

theorem sorted_pair (zs : List Int) : (sorted zs).Pairwise (· ≤ ·) := by
  have := List.pairwise_mergeSort (le := fun x y : Int => decide (x ≤ y)) (by intro a b c h1 h2; simp at *; omega) (by intro a b; simp; omega) zs
  exact this.imp (fun h => by simpa using h)
theorem compact_pair {zs : List Int} (h : zs.Pairwise (· ≤ ·)) : (Lib.compact zs).Pairwise (· ≤ ·) := by
  unfold Lib.compact Lib.compactUpTo
  rw [List.pairwise_map]
  have hr : (List.range zs.length).Pairwise (· < ·) := List.pairwise_lt_range
  have hm : ∀ x ∈ (List.range zs.length).filter (Lib.keeps zs.toArray), x < zs.length := fun x hx => List.mem_range.1 (List.mem_filter.1 hx).1
  refine List.Pairwise.imp_of_mem ?_ (hr.filter _)
  intro a b ha hb hab
  have h1 := hm a ha
  have h2 := hm b hb
  have := List.pairwise_iff_getElem.1 h a b h1 h2 hab
  rw [getElem!_pos _ _ (by simpa using h1), getElem!_pos _ _ (by simpa using h2)]
  simpa using this
theorem keys_pair (l : List Cl) : (keysOf l).Pairwise (· ≤ ·) := compact_pair (sorted_pair _)
theorem bs_any (K : Option Addr) (m d : Nat) (keys : List Int) (x : Int) (w : World) (hm : m = keys.length) (hK : Sl w K (keys.map (Value.int .i64))) (hs : keys.Pairwise (· ≤ ·)) (hb : keys.length ≤ 100000) :
    Calls Tryz.prog 85 #[.slice K m d, .int .i64 x] w fun e w' => (∃ z, e = .returned (.tuple #[.int .i64 z, .bool (keys.contains x)])) ∧ Below w.heap.size w w' := by
  subst hm
  by_cases h0 : keys.length = 0
  · have hl : keys = [] := List.eq_nil_of_length_eq_zero h0
    subst hl
    refine (Tryz.slices_BinarySearch_int_empty K d x w).mono ?_
    rintro e w' ⟨rfl, rfl⟩
    exact ⟨⟨_, rfl⟩, Below.refl _ _⟩
  · obtain ⟨b, off, rfl, hc⟩ := hK (by rw [List.length_map]; omega)
    have := Tryz.slices_BinarySearch_int b off keys.length d keys x w (Nat.le_refl _) (by omega) (fun j hj => hc j _ (by rw [List.getElem?_map, List.getElem?_eq_getElem hj, List.getD_eq_getElem?_getD, List.getElem?_eq_getElem hj]; rfl)) (by rw [List.take_length]; exact hs)
    rw [List.take_length] at this
    refine this.mono ?_
    rintro e w' ⟨rfl, q, rfl⟩
    exact ⟨⟨_, rfl⟩, below_drewN (Below.refl _ _) q⟩
def GoodAt (keys l : List Int) (j : Nat) : Prop := keys.contains (l.getD j 0) = true ∧ (0 < j → l.getD (j - 1) 0 < l.getD j 0)
instance (keys l : List Int) (j : Nat) : Decidable (GoodAt keys l j) := by unfold GoodAt; infer_instance
def risesB (keys l : List Int) : Bool := decide (∀ j, j < l.length → GoodAt keys l j)
def listedB (c : Cl) (keys : List Int) : Bool := if c.k ≠ 17 ∨ c.is = false then decide (c.list.length = 0) else risesB keys c.list
theorem rises_no {keys l : List Int} {j : Nat} (hj : j < l.length) (h : ¬ GoodAt keys l j) : risesB keys l = false := decide_eq_false fun q => h (q j hj)
theorem rises_all {keys l : List Int} {i : Nat} (hi : i = l.length) (h : ∀ j, j < i → GoodAt keys l j) : risesB keys l = true := decide_eq_true fun j hj => h j (by omega)
theorem good_step {keys l : List Int} {i : Nat} (h : ∀ j, j < i → GoodAt keys l j) (h2 : GoodAt keys l i) : ∀ j, j < i + 1 → GoodAt keys l j := fun j hj => by
  rcases Nat.lt_or_ge j i with q | q
  · exact h j q
  · obtain rfl : j = i := by omega
    exact h2
set_option maxHeartbeats 8000000 in
set_option maxRecDepth 100000 in
theorem listed_len (c : Cl) (K : Option Addr) (m d : Nat) (w : World) (h : c.k ≠ 17 ∨ c.is = false) : Calls Tryz.prog 58 #[c.val, .slice K m d] w fun e w' => e = .returned (.bool (decide (c.list.length = 0))) ∧ Below w.heap.size w w' := by
  obtain ⟨me, k, u, v, x, era, fr, to, err, is, n, wt, list, cA, cap⟩ := c
  simp only at h ⊢
  have HA := Lib.hid ((Below.refl w.heap.size w).alloc (Nat.le_refl _) (bx ⟨me, k, u, v, x, era, fr, to, err, is, n, wt, list, cA, cap⟩))
  unfold bx at HA
  simp only at HA
  unfold Cl.val
  by_cases hk : k = 17
  · have hs : is = false := h.resolve_left (fun q => q hk)
    subst hk hs
    clear h
    by_cases h0 : list.length = 0
    · rw [decide_eq_true h0]
      rw [h0] at HA ⊢
      clear h0
      go_enter Tryz.func58, Tryz.ntmps58
      go_wp2
      go_ret
      exact ⟨rfl, HA.out⟩
    · have z1 : ((list.length : Int) == 0) = false := by simp; intro q; simp [q] at h0
      rw [decide_eq_false h0]
      generalize list.length = nl at *
      have z2 : (nl == 0) = false := by simpa using h0
      clear h0
      go_enter Tryz.func58, Tryz.ntmps58
      go_wp2
      go_ret
      exact ⟨rfl, HA.out⟩
  · have k1 : (k == 17) = false := by simpa using hk
    clear h
    by_cases h0 : list.length = 0
    · rw [decide_eq_true h0]
      rw [h0] at HA ⊢
      clear h0
      go_enter Tryz.func58, Tryz.ntmps58
      go_wp2
      go_ret
      exact ⟨rfl, HA.out⟩
    · have z1 : ((list.length : Int) == 0) = false := by simp; intro q; simp [q] at h0
      rw [decide_eq_false h0]
      generalize list.length = nl at *
      have z2 : (nl == 0) = false := by simpa using h0
      clear h0
      go_enter Tryz.func58, Tryz.ntmps58
      go_wp2
      go_ret
      exact ⟨rfl, HA.out⟩
set_option maxHeartbeats 8000000 in
set_option maxRecDepth 100000 in
theorem listed_rises (c : Cl) (K : Option Addr) (m d : Nat) (keys : List Int) (w : World) (hk : c.k = 17) (hs : c.is = true) (hm : m = keys.length) (hK : Sl w K (keys.map (Value.int .i64))) (hp : keys.Pairwise (· ≤ ·)) (h40 : keys.length ≤ 100000) (hL : Sl w c.A (c.list.map (Value.int .i64))) (hlb : c.list.length ≤ 9223372036854775807) :
    Calls Tryz.prog 58 #[c.val, .slice K m d] w fun e w' => e = .returned (.bool (risesB keys c.list)) ∧ Below w.heap.size w w' := by
  subst hm
  obtain ⟨me, k, u, v, x, era, fr, to, err, is, n, wt, list, cA, cap⟩ := c
  simp only at hk hs hL hlb ⊢
  subst hk hs
  have HA := Lib.hid ((Below.refl w.heap.size w).alloc (Nat.le_refl _) (bx ⟨me, 17, u, v, x, era, fr, to, err, true, n, wt, list, cA, cap⟩))
  unfold bx at HA
  simp only at HA
  have HL := Lib.hid hL
  have HB : Hid (∀ W y, Below w.heap.size w W → Calls Tryz.prog 85 #[.slice K keys.length d, .int .i64 y] W fun e w' => (∃ z, e = .returned (.tuple #[.int .i64 z, .bool (keys.contains y)])) ∧ Below W.heap.size W w') := Lib.hid fun W y hW => bs_any K keys.length d keys y W rfl (hK.below hW (Nat.le_refl _)) hp h40
  clear hK hp hL
  unfold Cl.val
  go_enter Tryz.func58, Tryz.ntmps58
  go_wp2
  go_loopw [28] (fun sv wr => ∃ j : Nat, j ≤ list.length ∧ sv = .int .i64 j ∧ (∀ i, i < j → GoodAt keys list i) ∧ Below w.heap.size w wr) (fun sv _ => list.length - (intOf sv).toNat)
  case atStart => exact ⟨0, Nat.zero_le _, rfl, fun i hi => by omega, HA.out⟩
  case round =>
    obtain ⟨j, hj, rfl, hg, hb⟩ := hrel
    have HG := Lib.hid hg
    have HW := Lib.hid hb
    clear hg hb
    by_cases hlt : j < list.length
    · obtain ⟨b, off, hA, hc⟩ := (HL.out.below HW.out (Nat.le_refl _)) (by rw [List.length_map]; omega)
      subst hA
      have gd : ∀ i (hi : i < list.length), list.getD i 0 = list[i] := fun i hi => by rw [List.getD_eq_getElem?_getD, List.getElem?_eq_getElem hi]; rfl
      have hcj := hc j (.int .i64 (list.getD j 0)) (by rw [List.getElem?_map, List.getElem?_eq_getElem hlt, gd j hlt]; rfl)
      have D := Lib.hid (HB.out wr (list.getD j 0) HW.out)
      have i0 : (0 : Int) ≤ (j : Int) := by omega
      have i1 : (j : Int) < (list.length : Int) := by omega
      have n3 : IntKind.i64.wrap ((j : Int) + 1) = (j : Int) + 1 := by rw [IntKind.wrap_i64] <;> omega
      have HLT := Lib.hid hlt
      cases hq : keys.contains (list.getD j 0)
      · have hx := Lib.hid (rises_no (keys := keys) hlt (fun z => by rw [z.1] at hq; cases hq))
        rw [hq] at D
        clear hq hc gd
        generalize list.getD j 0 = y at D hcj
        go_wp2_with (go_at_call 85; ((with_reducible refine D.out.mono ?_); rintro e w1 ⟨⟨z, rfl⟩, hb⟩; have H1 := Lib.hid (HW.out.trans (hb.mono HW.out.size)); clear hb))
        go_ret
        exact ⟨by rw [hx.out]; rfl, H1.out⟩
      · rw [hq] at D
        by_cases hj0 : j = 0
        · subst hj0
          have hst := Lib.hid (good_step HG.out ⟨hq, fun z => by omega⟩)
          clear hq hc gd
          generalize list.getD 0 0 = y at D hcj
          have hcj0 : wr.cell? ⟨b, off, none⟩ = some (.int .i64 y) := hcj
          go_wp2_with (go_at_call 85; ((with_reducible refine D.out.mono ?_); rintro e w1 ⟨⟨z, rfl⟩, hb⟩; have H1 := Lib.hid (HW.out.trans (hb.mono HW.out.size)); clear hb))
          go_roundw
          case rel => exact ⟨1, by omega, rfl, hst.out, H1.out⟩
          case measure => simp [intOf]; omega
        · obtain ⟨i, rfl⟩ : ∃ i, j = i + 1 := ⟨j - 1, by omega⟩
          have hci := hc i (.int .i64 (list.getD i 0)) (by rw [List.getElem?_map, List.getElem?_eq_getElem (by omega), gd i (by omega)]; rfl)
          have hbk := Lib.hid (World.block_lt_of_cell? _ _ hci)
          have q0 : (0 : Int) ≤ (i : Int) := by omega
          have q1 : (i : Int) < (list.length : Int) := by omega
          have n4 : IntKind.i64.wrap ((i : Int) + 1 - 1) = (i : Int) := by rw [IntKind.wrap_i64] <;> omega
          have n5 : IntKind.i64.wrap (i : Int) = (i : Int) := by rw [IntKind.wrap_i64] <;> omega
          have n6 : decide ((0 : Int) < (i : Int) + 1) = true := decide_eq_true (by omega)
          have n7 : IntKind.i64.wrap ((i : Int) + 1 + 1) = (i : Int) + 1 + 1 := by rw [IntKind.wrap_i64] <;> omega
          have HCI := Lib.hid hci
          by_cases hlt2 : list.getD i 0 < list.getD (i + 1) 0
          · have hst := Lib.hid (good_step HG.out ⟨hq, fun _ => hlt2⟩)
            have t1 : decide (list.getD (i + 1) 0 ≤ list.getD i 0) = false := by simp only [decide_eq_false_iff_not]; omega
            clear hq hc gd hlt2 hci hj0
            generalize list.getD (i + 1) 0 = y at D hcj t1
            generalize list.getD i 0 = y0 at HCI t1
            go_wp2_with (go_at_call 85; ((with_reducible refine D.out.mono ?_); rintro e w1 ⟨⟨z, rfl⟩, hb⟩; have H1 := Lib.hid (HW.out.trans (hb.mono HW.out.size)); have ci := (hb.cell (p := ⟨b, off + i, none⟩) hbk.out).trans HCI.out; clear hb))
            go_roundw
            case rel => exact ⟨i + 1 + 1, by omega, by go_num, hst.out, H1.out⟩
            case measure => simp [intOf]; omega
          · have hx := Lib.hid (rises_no (keys := keys) hlt (fun z => hlt2 (z.2 (by omega))))
            have t1 : decide (list.getD (i + 1) 0 ≤ list.getD i 0) = true := by simp only [decide_eq_true_eq]; omega
            clear hq hc gd hlt2 hci hj0
            generalize list.getD (i + 1) 0 = y at D hcj t1
            generalize list.getD i 0 = y0 at HCI t1
            go_wp2_with (go_at_call 85; ((with_reducible refine D.out.mono ?_); rintro e w1 ⟨⟨z, rfl⟩, hb⟩; have H1 := Lib.hid (HW.out.trans (hb.mono HW.out.size)); have ci := (hb.cell (p := ⟨b, off + i, none⟩) hbk.out).trans HCI.out; clear hb))
            go_ret
            exact ⟨by rw [hx.out]; rfl, H1.out⟩
    · have hx := Lib.hid (rises_all (keys := keys) (l := list) (i := j) (by omega) HG.out)
      go_wp2
      go_ret
      exact ⟨by rw [hx.out]; rfl, HW.out⟩
theorem listed_any (c : Cl) (K : Option Addr) (m d : Nat) (keys : List Int) (w : World) (hm : m = keys.length) (hK : Sl w K (keys.map (Value.int .i64))) (hp : keys.Pairwise (· ≤ ·)) (h40 : keys.length ≤ 100000) (hL : Sl w c.A (c.list.map (Value.int .i64))) (hlb : c.list.length ≤ 9223372036854775807) :
    Calls Tryz.prog 58 #[c.val, .slice K m d] w fun e w' => e = .returned (.bool (listedB c keys)) ∧ Below w.heap.size w w' := by
  unfold listedB
  split
  · exact listed_len c K m d w ‹_›
  · have h := not_or.1 ‹_›
    exact listed_rises c K m d keys w (Classical.not_not.1 h.1) (by simpa using h.2) hm hK hp h40 hL hlb
/-- hist.Listed's function. -/
def notListed (keys : List Int) (c : Cl) : Bool := !openB c && !idleB c && !listedB c keys
set_option maxHeartbeats 8000000 in
set_option maxRecDepth 100000 in
theorem listed1_any (c : Cl) (p : Nat) (K : Option Addr) (d : Nat) (keys : List Int) (w : World) (hb : w.cell? ⟨p, 0, none⟩ = some (.slice K keys.length d)) (hK : Sl w K (keys.map (Value.int .i64))) (hp : keys.Pairwise (· ≤ ·)) (h40 : keys.length ≤ 100000) (hL : Sl w c.A (c.list.map (Value.int .i64))) (hlb : c.list.length ≤ 9223372036854775807) :
    Calls Tryz.prog 55 #[c.val, .pointer (some ⟨p, 0, none⟩)] w fun e w' => e = .returned (.bool (notListed keys c)) ∧ Below w.heap.size w w' := by
  have HA := Lib.hid ((Below.refl w.heap.size w).alloc (Nat.le_refl _) (bx c))
  have T : Hid (∀ W, Below (w.alloc (bx c)).heap.size (w.alloc (bx c)) W → At W w.heap.size 0 c ∧ W.cell? ⟨p, 0, none⟩ = some (.slice K keys.length d) ∧ Below w.heap.size w W) := Lib.hid fun W hW =>
    ⟨(at_box w c).below hW (Nat.le_refl _), ((HA.out.trans (hW.mono HA.out.size)).cell (p := ⟨p, 0, none⟩) (World.block_lt_of_cell? _ _ hb)).trans hb, HA.out.trans (hW.mono HA.out.size)⟩
  have HO : Hid (∀ W, Calls Tryz.prog 56 #[c.val] W fun e w' => e = .returned (.bool (openB c)) ∧ Below W.heap.size W w') := Lib.hid fun W => open_any c W
  have HI : Hid (∀ W, Calls Tryz.prog 57 #[c.val] W fun e w' => e = .returned (.bool (idleB c)) ∧ Below W.heap.size W w') := Lib.hid fun W => idle_any c W
  have HD : Hid (∀ W, Below w.heap.size w W → Calls Tryz.prog 58 #[c.val, .slice K keys.length d] W fun e w' => e = .returned (.bool (listedB c keys)) ∧ Below W.heap.size W w') := Lib.hid fun W hW => listed_any c K keys.length d keys W rfl (hK.below hW (Nat.le_refl _)) hp h40 (hL.below hW (Nat.le_refl _)) hlb
  clear hb hK hp hL
  unfold Cl.val at HO HI HD ⊢
  unfold bx at HA T
  unfold notListed
  generalize openB c = ob at *
  generalize idleB c = ib at *
  generalize listedB c keys = lb at *
  cases ob
  · cases ib
    · go_enter Tryz.func55, Tryz.ntmps55
      go_wp2_with (first
        | (go_at_call 56; ((with_reducible refine (HO.out _).mono ?_); rintro e w1 ⟨rfl, hb⟩; have H1 := Lib.hid hb; obtain ⟨⟨c0, c1, c2, c3, c4, c5, c6, c7, c8, c9, c10, c11, c12⟩, cp, hw1⟩ := T.out _ hb; clear hb hw1))
        | (go_at_call 57; ((with_reducible refine (HI.out _).mono ?_); rintro e w2 ⟨rfl, hb⟩; clear c0 c1 c2 c3 c4 c5 c6 c7 c8 c9 c10 c11 c12 cp; have H2 := Lib.hid (H1.out.trans (hb.mono H1.out.size)); obtain ⟨⟨c0, c1, c2, c3, c4, c5, c6, c7, c8, c9, c10, c11, c12⟩, cp, hw2⟩ := T.out _ H2.out; have HW2 := Lib.hid hw2; have D3 := Lib.hid (HD.out _ hw2); clear hb hw2))
        | (go_at_call 58; ((with_reducible refine D3.out.mono ?_); rintro e w3 ⟨rfl, hb⟩; have HW3 := Lib.hid (HW2.out.trans (hb.mono HW2.out.size)); clear hb)))
      go_ret
      exact ⟨rfl, HW3.out⟩
    · go_enter Tryz.func55, Tryz.ntmps55
      go_wp2_with (first
        | (go_at_call 56; ((with_reducible refine (HO.out _).mono ?_); rintro e w1 ⟨rfl, hb⟩; have H1 := Lib.hid hb; obtain ⟨⟨c0, c1, c2, c3, c4, c5, c6, c7, c8, c9, c10, c11, c12⟩, cp, hw1⟩ := T.out _ hb; clear hb hw1))
        | (go_at_call 57; ((with_reducible refine (HI.out _).mono ?_); rintro e w2 ⟨rfl, hb⟩; have H2 := Lib.hid (H1.out.trans (hb.mono H1.out.size)); have HW2 := Lib.hid (T.out _ H2.out).2.2; clear hb)))
      go_ret
      exact ⟨rfl, HW2.out⟩
  · go_enter Tryz.func55, Tryz.ntmps55
    go_wp2_with (go_at_call 56; ((with_reducible refine (HO.out _).mono ?_); rintro e w1 ⟨rfl, hb⟩; have HW1 := Lib.hid (T.out _ hb).2.2; clear hb))
    go_ret
    exact ⟨rfl, HW1.out⟩
set_option maxHeartbeats 8000000 in
theorem listedH_any (A : Option Addr) (c n : Nat) (l : List Cl) (w : World) (hn : n = l.length) (hl : Cls w A l) (h40 : l.length ≤ 1000) (hb : ∀ a ∈ l, a.list.length ≤ 9223372036854775807) :
    Calls Tryz.prog 34 #[.slice A n c] w fun e w' => e = .returned (.bool (!l.any (notListed (keysOf l)))) ∧ Below w.heap.size w w' := by
  subst hn
  have DK := Lib.hid (keys_any A c l.length l w rfl hl h40)
  have HKL := Lib.hid (keys_len l)
  have HP := Lib.hid (keys_pair l)
  have HL := Lib.hid hl
  have HB := Lib.hid hb
  clear hl hb
  generalize keysOf l = keys at DK HKL HP ⊢
  have hkl := HKL.out
  go_enter Tryz.func34, Tryz.ntmps34
  go_wp2_with (first
    | (go_at_call 53; ((with_reducible refine DK.out.mono ?_); rintro e w1 ⟨K, d, rfl, hok, hb1⟩; have H1 := Lib.hid (hb1.alloc hb1.size (.cells #[.slice K keys.length d] 33)); have HS := Lib.hid ((own_sl hok).below ((Below.refl w1.heap.size w1).alloc (Nat.le_refl _) (.cells #[.slice K keys.length d] 33)) (Nat.le_refl _)); have hcell : (w1.alloc (.cells #[.slice K keys.length d] 33)).cell? ⟨w1.heap.size, 0, none⟩ = some (.slice K keys.length d) := (World.cell?_alloc_new _ _ _ _).trans rfl; have D2 := Lib.hid (contains_any 55 #[.pointer (some ⟨w1.heap.size, 0, none⟩)] call33 (notListed keys) A c l.length l (w1.alloc (.cells #[.slice K keys.length d] 33)) rfl (HL.out.below H1.out (Nat.le_refl _)) h40 (fun W a ha hW => listed1_any a w1.heap.size K d keys W ((hW.cell (p := ⟨w1.heap.size, 0, none⟩) (World.block_lt_of_cell? _ _ hcell)).trans hcell) (HS.out.below hW (Nat.le_refl _)) HP.out (Nat.le_trans hkl (Nat.le_trans (Nat.mul_le_mul_left 2 h40) (by decide))) ((HL.out.1 a ha).below (H1.out.trans (hW.mono H1.out.size)) (Nat.le_refl _)) (HB.out a ha))); clear hok hb1 hcell))
    | (go_at_call 54; ((with_reducible refine D2.out.mono ?_); rintro e w2 ⟨rfl, hb⟩; have H2 := Lib.hid (H1.out.trans (hb.mono H1.out.size)); clear hb)))
  go_ret
  exact ⟨rfl, H2.out⟩
end Go.Proofs.YtpdfmfkoopdfgaaGreatDoor.Hs
end
section
namespace Go.Proofs.YtpdfmfkoopdfgaaGreatDoor.Hs
set_option maxRecDepth 100000
open Go.RowKit Aid

theorem upto_mem {zs : List Int} : ∀ m, m ≤ zs.length → ∀ j, j < m → zs.toArray[j]! ∈ Lib.compactUpTo zs.toArray m
  | 0, _, _, hj => by omega
  | m + 1, hm, j, hj => by
    rw [Lib.compactUpTo_succ]
    rcases Nat.lt_or_ge j m with q | q
    · exact List.mem_append_left _ (upto_mem m (by omega) j q)
    · obtain rfl : j = m := by omega
      cases hk : Lib.keeps zs.toArray j
      · have hk' : ¬ (j = 0 ∨ zs.toArray[j]! ≠ zs.toArray[j - 1]!) := of_decide_eq_false hk
        have h0 : j ≠ 0 := fun e => hk' (.inl e)
        have he : zs.toArray[j]! = zs.toArray[j - 1]! := Classical.not_not.1 fun e => hk' (.inr e)
        rw [he]
        exact List.mem_append_left _ (upto_mem j (by omega) (j - 1) (by omega))
      · rw [if_pos rfl]
        exact List.mem_append_right _ (List.mem_singleton.2 rfl)
theorem mem_compact {zs : List Int} {x : Int} : x ∈ Lib.compact zs ↔ x ∈ zs := by
  constructor
  · intro h
    unfold Lib.compact Lib.compactUpTo at h
    obtain ⟨j, hj, rfl⟩ := List.mem_map.1 h
    have h1 := List.mem_range.1 (List.mem_filter.1 hj).1
    rw [getElem!_pos _ _ (by simpa using h1)]
    simp
  · intro h
    obtain ⟨j, hj, rfl⟩ := List.mem_iff_getElem.1 h
    have := upto_mem zs.length (Nat.le_refl _) j hj
    rw [getElem!_pos _ _ (by simpa using hj)] at this
    unfold Lib.compact
    simpa using this
theorem mem_uniq {zs : List Int} {x : Int} : x ∈ uniq zs ↔ x ∈ zs := by
  unfold uniq
  rw [mem_compact]
  exact (List.mergeSort_perm zs _).mem_iff
/-- How many points are yes, behind the first one. -/
def yesN (qs : List Pt) (m : Nat) : Nat := ((qs.take m).tail.filter (·.is)).length
end Go.Proofs.YtpdfmfkoopdfgaaGreatDoor.Hs
end
