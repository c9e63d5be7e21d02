/- The walk through the statement WeightRows. -/
import Derived.Test.YtmcfmikpcmbmbaaLaws2
import Derived.Test.YtmcfmikpcmbmbaaAid
import Derived.Deep.RegionWith
namespace Go.Proofs.Ytmcfmikpcmbmbaa
open Go.RowKit Aid

theorem word_info : (Try.prog.info? 22).map (fun i => (i.zero, i.size, i.bytes)) = some (some (.int .u64 0), 1, 8) := by kernel_rfl
theorem Words.sl {w : World} {A : Option Addr} {l : List Int} (h : Words w A l) : Sl w A (l.map (Value.int .u64)) := fun hp => by
  rw [List.length_map] at hp
  obtain ⟨b, off, hA, hc⟩ := h.2.2 hp
  refine ⟨b, off, hA, fun j u hu => ?_⟩
  rw [List.getElem?_map, Option.map_eq_some_iff] at hu
  obtain ⟨x, hx, rfl⟩ := hu
  have hj : j < l.length := (List.getElem?_eq_some_iff.1 hx).1
  rw [hc j hj, List.getD_eq_getElem?_getD, hx]; rfl
theorem Words.of_sl {w : World} {A : Option Addr} {l : List Int} (h : Sl w A (l.map (Value.int .u64))) (hl : l.length ≤ 9223372036854775807) (hb : ∀ n ∈ l, 0 ≤ n ∧ n < 18446744073709551616) : Words w A l :=
  ⟨hl, hb, fun hp => by
    obtain ⟨b, off, hA, hc⟩ := h (by simpa using hp)
    refine ⟨b, off, hA, fun i hi => hc i _ ?_⟩
    rw [List.getElem?_map, List.getElem?_eq_getElem hi, List.getD_eq_getElem?_getD, List.getElem?_eq_getElem hi]; rfl⟩

theorem up_assoc (x y z : Int) : up (up x y) z = up x (up y z) := by
  have U : ∀ a b, up a b = if pl a < pl b then b else a := fun a b => by
    unfold up
    by_cases h : pl a < pl b
    · rw [if_pos h, if_pos (less_t h)]
    · rw [if_neg h, if_neg (fun k => h (less_tt k))]
  by_cases h1 : pl x < pl y <;> by_cases h2 : pl y < pl z
  · rw [U x y, if_pos h1, U y z, if_pos h2, U x z, if_pos (by omega)]
  · rw [U x y, if_pos h1, U y z, if_neg h2, U x y, if_pos h1]
  · rw [U x y, if_neg h1, U y z, if_pos h2]
  · rw [U x y, if_neg h1, U y z, if_neg h2, U x y, if_neg h1, U x z, if_neg (by omega)]
theorem up_comm {x y : Int} (h0 : 0 ≤ x) (h1 : x < 18446744073709551616) (h2 : 0 ≤ y) (h3 : y < 18446744073709551616) : up x y = up y x := by
  have H : ∀ a b, (lessB a b = true) ↔ pl a < pl b := fun a b => ⟨less_tt, less_t⟩
  unfold up
  rcases Int.lt_trichotomy (pl x) (pl y) with h | h | h
  · rw [if_pos ((H _ _).2 h), if_neg (fun k => by have := (H _ _).1 k; omega)]
  · rw [pl_inj h0 h1 h2 h3 h]
  · rw [if_neg (fun k => by have := (H _ _).1 k; omega), if_pos ((H _ _).2 h)]
theorem getD_left {l m : List Int} {i : Nat} (h : i < l.length) : (l ++ m).getD i 0 = l.getD i 0 := by
  rw [List.getD_eq_getElem?_getD, List.getD_eq_getElem?_getD, List.getElem?_append_left h]
theorem getD_right {l m : List Int} (i : Nat) : (l ++ m).getD (l.length + i) 0 = m.getD i 0 := by
  rw [List.getD_eq_getElem?_getD, List.getD_eq_getElem?_getD, List.getElem?_append_right (by omega)]
  congr 2; omega
theorem top_one (l : List Int) : top l 1 = l.getD 0 0 := by unfold top; rfl
theorem top_left (l m : List Int) : ∀ k, 0 < k → k ≤ l.length → top (l ++ m) k = top l k
  | 0, h, _ => by omega
  | 1, _, h => by rw [top_one, top_one, getD_left (by omega)]
  | k + 2, _, h => by rw [top_succ (l ++ m) (k + 1) (by omega), top_succ l (k + 1) (by omega), top_left l m (k + 1) (by omega) (by omega), getD_left (by omega)]
theorem top_right (l m : List Int) (hl : 0 < l.length) : ∀ j, top (l ++ m) (l.length + (j + 1)) = up (greatest l) (top m (j + 1))
  | 0 => by
    rw [← Nat.add_assoc, Nat.add_zero, top_succ _ _ hl, top_left l m _ hl (Nat.le_refl _), top_one]
    have := getD_right (l := l) (m := m) 0
    rw [Nat.add_zero] at this
    rw [this]; rfl
  | j + 1 => by
    rw [← Nat.add_assoc, top_succ _ _ (by omega), top_right l m hl j, getD_right, top_succ m (j + 1) (by omega), up_assoc]
theorem greatest_two (l m : List Int) (hl : 0 < l.length) (hm : 0 < m.length) : greatest (l ++ m) = up (greatest l) (greatest m) := by
  obtain ⟨j, hj⟩ : ∃ j, m.length = j + 1 := ⟨m.length - 1, by omega⟩
  have := top_right l m hl j
  unfold greatest at this ⊢
  rw [List.length_append, hj, this]

/-- weight.Greatest of a row that has one. -/
theorem greatest_at (A : Option Addr) (c n : Nat) (l : List Int) (hn : n = l.length) (g : Int) (hg : greatest l = g) (hl0 : hasB l = true) (w : World) (hl : Words w A l) :
    Calls Try.prog 12 #[.slice A n c] w fun e w' => e = .returned (.tuple #[.int .u64 g, .bool true]) ∧ w = w' := by
  have := greatest_any A c n l hn w hl
  rwa [hg, hl0] at this

theorem rows_walk (A B : Option Addr) (c d : Nat) (l m : List Int) (w : World) (hl : Words w A l) (hm : Words w B m) :
    Calls Try.prog 9 #[.slice A l.length c, .slice B m.length d] w fun e w' => e = .returned (.bool true) ∧ Below w.heap.size w w' := by
  have HL := Lib.hid hl
  have HM := Lib.hid hm
  clear hl hm
  obtain ⟨i0, hi0, hz0, hz1, hz2⟩ := info_parts word_info
  by_cases hlen : 40 < l.length
  · go_enter Try.func9, Try.ntmps9
    go_wp2_with (go_at_call 11; refine (shown_any _).mono ?_; rintro e w1 ⟨rfl, hb⟩)
    go_ret
    exact ⟨rfl, hb⟩
  by_cases hlen' : 40 < m.length
  · go_enter Try.func9, Try.ntmps9
    go_wp2_with (go_at_call 11; refine (shown_any _).mono ?_; rintro e w1 ⟨rfl, hb⟩)
    go_ret
    exact ⟨rfl, hb⟩
  by_cases hn : l.length = 0
  · have hn1 : ((l.length : Int) == 0) = true := by simp; exact List.eq_nil_of_length_eq_zero hn
    clear hn
    go_enter Try.func9, Try.ntmps9
    go_wp2_with (go_at_call 11; refine (shown_any _).mono ?_; rintro e w1 ⟨rfl, hb⟩)
    go_ret
    exact ⟨rfl, hb⟩
  have hn1 : ((l.length : Int) == 0) = false := by simp; intro h; exact hn (by rw [h]; rfl)
  by_cases hk : m.length = 0
  · have hk1 : ((m.length : Int) == 0) = true := by simp; exact List.eq_nil_of_length_eq_zero hk
    clear hk hn
    go_enter Try.func9, Try.ntmps9
    go_wp2_with (go_at_call 11; refine (shown_any _).mono ?_; rintro e w1 ⟨rfl, hb⟩)
    go_ret
    exact ⟨rfl, hb⟩
  have hk1 : ((m.length : Int) == 0) = false := by simp; intro h; exact hk (by rw [h]; rfl)
  have hl1 := Lib.hid (show (l.map (Value.int .u64)).length = l.length * 1 from by simp)
  have hz := Lib.hid (show l.length = 0 + l.length from by simp)
  have hl2 : 0 + l.length ≤ maxLen := by unfold maxLen; omega
  have hl3 : (0 + l.length) * 8 ≤ 140737488355328 := by omega
  have hzm := Lib.hid (show m.length = 0 + m.length from by simp)
  have hm2 : 0 + m.length ≤ maxLen := by unfold maxLen; omega
  have hm3 : (0 + m.length) * 8 ≤ 140737488355328 := by omega
  have hl1m := Lib.hid (show (m.map (Value.int .u64)).length = m.length * 1 from by simp)
  have hl4 : l.length + m.length ≤ maxLen := by unfold maxLen; omega
  have hl5 : (l.length + m.length) * 8 ≤ 140737488355328 := by omega
  have hm4 : m.length + l.length ≤ maxLen := by unfold maxLen; omega
  have hm5 : (m.length + l.length) * 8 ≤ 140737488355328 := by omega
  have hlm := Lib.hid (show l.length + m.length = (l ++ m).length from by simp)
  have hml := Lib.hid (show m.length + l.length = (m ++ l).length from by simp)
  have hlen9 := Lib.hid (show (l ++ m).length ≤ 9223372036854775807 from by rw [List.length_append]; omega)
  have hlen9m := Lib.hid (show (m ++ l).length ≤ 9223372036854775807 from by rw [List.length_append]; omega)
  have hmem : Hid (∀ n ∈ l ++ m, 0 ≤ n ∧ n < 18446744073709551616) := fun n hn => (List.mem_append.1 hn).elim (HL.out.2.1 n) (HM.out.2.1 n)
  have hmemm : Hid (∀ n ∈ m ++ l, 0 ≤ n ∧ n < 18446744073709551616) := fun n hn => (List.mem_append.1 hn).elim (HM.out.2.1 n) (HL.out.2.1 n)
  have HHL := Lib.hid (show hasB l = true from by unfold hasB; simp; omega)
  have HHM := Lib.hid (show hasB m = true from by unfold hasB; simp; omega)
  have HHLM := Lib.hid (show hasB (l ++ m) = true from by unfold hasB; simp; omega)
  have HHML := Lib.hid (show hasB (m ++ l) = true from by unfold hasB; simp; omega)
  have HRX := Lib.hid (show 0 ≤ greatest l ∧ greatest l < 18446744073709551616 from top_range HL.out.2.1 _ (Nat.le_refl _))
  have HRY := Lib.hid (show 0 ≤ greatest m ∧ greatest m < 18446744073709551616 from top_range HM.out.2.1 _ (Nat.le_refl _))
  have HG1 := Lib.hid (greatest_two l m (by omega) (by omega))
  have HG2 := Lib.hid ((greatest_two m l (by omega) (by omega)).trans (up_comm HRY.out.1 HRY.out.2 HRX.out.1 HRX.out.2))
  generalize hx : greatest l = x at HRX HG1 HG2
  generalize hy : greatest m = y at HRY HG1 HG2
  have HX := Lib.hid hx
  have HY := Lib.hid hy
  clear hx hy hn hk
  by_cases hq : lessB x y = true
  · rw [show up x y = y from by unfold up; rw [if_pos hq]] at HG1 HG2
    go_enter Try.func9, Try.ntmps9
    go_wp2_with (first
      | (go_at_call 11; ((with_reducible refine (shown_any _).mono ?_); rintro e w1 ⟨rfl, hb⟩; have HL1 := Lib.hid (HL.out.below hb (Nat.le_refl _)); have HM1 := Lib.hid (HM.out.below hb (Nat.le_refl _)); have HB := Lib.hid hb; have hs1 := Lib.hid (show w.heap.size ≤ (w1.alloc (.cells #[] 22)).heap.size from by rw [World.size_alloc]; have := hb.size; omega); clear hb))
      | (go_at_call_of 12 (Value.slice A l.length c); ((with_reducible refine (greatest_at A c l.length l rfl x HX.out HHL.out _ HL1.out).mono ?_); rintro e w' ⟨rfl, rfl⟩))
      | (go_at_call_of 12 (Value.slice B m.length d); ((with_reducible refine (greatest_at B d m.length m rfl y HY.out HHM.out _ HM1.out).mono ?_); rintro e w' ⟨rfl, rfl⟩))
      | (at_builtin
         refine wpList_append_sl _ rfl (.tmp 46) (.tmp 47) 23 rfl w.heap.size 22 i0 _ 1 8 Try.underlying23 hi0 hz0 hz1 hz2 rfl Nat.one_pos _ 0 [] rfl (World.ownsRow_made w1 #[] 0 HB.out.size (Nat.zero_le _) rfl) A l.length c (l.map (Value.int .u64)) rfl hl1.out (HL1.out.sl.below ((Below.refl _ _).alloc (Nat.le_refl _) _) (Nat.le_refl _)) (ints_one _ _) hl2 hl3 hs1.out l.length hz.out ?_
         intro A2 c2 w2 hown2 hb2 _ _
         have hb2' := HB.out.trans (((Below.refl w.heap.size w1).alloc HB.out.size _).trans hb2)
         have HO2 := Lib.hid hown2
         have HB2 := Lib.hid hb2'
         have HM2 := Lib.hid ((HM.out.below hb2' (Nat.le_refl _)).sl)
         have hs2 := Lib.hid hb2'.size
         clear hown2 hb2 hb2')
      | (at_builtin
         refine wpList_append_sl _ rfl (.tmp 48) (.tmp 49) 23 rfl w.heap.size 22 i0 _ 1 8 Try.underlying23 hi0 hz0 hz1 hz2 rfl Nat.one_pos _ l.length _ rfl HO2.out B m.length d (m.map (Value.int .u64)) rfl hl1m.out HM2.out (ints_one _ _) hl4 hl5 hs2.out (l.length + m.length) rfl ?_
         intro A3 c3 w3 hown3 hb3 _ _
         have hb3' := HB2.out.trans hb3
         have HS3 := Lib.hid (Words.of_sl (l := l ++ m) (by rw [List.map_append]; exact own_sl hown3) hlen9.out hmem.out)
         have HM3 := Lib.hid (HM.out.below hb3' (Nat.le_refl _))
         have HB3 := Lib.hid hb3'
         have hs3 := Lib.hid (show w.heap.size ≤ (w3.alloc (.cells #[] 22)).heap.size from by rw [World.size_alloc]; have := hb3'.size; omega)
         clear hown3 hb3 hb3')
      | (go_at_call_of 12 (Value.slice A3 (l.length + m.length) c3); ((with_reducible refine (greatest_at A3 c3 (l.length + m.length) (l ++ m) hlm.out y HG1.out HHLM.out _ HS3.out).mono ?_); rintro e w' ⟨rfl, rfl⟩))
      | (at_builtin
         refine wpList_append_sl _ rfl (.tmp 55) (.tmp 56) 23 rfl w.heap.size 22 i0 _ 1 8 Try.underlying23 hi0 hz0 hz1 hz2 rfl Nat.one_pos _ 0 [] rfl (World.ownsRow_made w3 #[] 0 HB3.out.size (Nat.zero_le _) rfl) B m.length d (m.map (Value.int .u64)) rfl hl1m.out (HM3.out.sl.below ((Below.refl _ _).alloc (Nat.le_refl _) _) (Nat.le_refl _)) (ints_one _ _) hm2 hm3 hs3.out m.length hzm.out ?_
         intro A4 c4 w4 hown4 hb4 _ _
         have hb4' := HB3.out.trans (((Below.refl w.heap.size w3).alloc HB3.out.size _).trans hb4)
         have HO4 := Lib.hid hown4
         have HB4 := Lib.hid hb4'
         have HL4 := Lib.hid ((HL.out.below hb4' (Nat.le_refl _)).sl)
         have hs4 := Lib.hid hb4'.size
         clear hown4 hb4 hb4')
      | (at_builtin
         refine wpList_append_sl _ rfl (.tmp 57) (.tmp 58) 23 rfl w.heap.size 22 i0 _ 1 8 Try.underlying23 hi0 hz0 hz1 hz2 rfl Nat.one_pos _ m.length _ rfl HO4.out A l.length c (l.map (Value.int .u64)) rfl hl1.out HL4.out (ints_one _ _) hm4 hm5 hs4.out (m.length + l.length) rfl ?_
         intro A5 c5 w5 hown5 hb5 _ _
         have hb5' := HB4.out.trans hb5
         have HS5 := Lib.hid (Words.of_sl (l := m ++ l) (by rw [List.map_append]; exact own_sl hown5) hlen9m.out hmemm.out)
         have HB5 := Lib.hid hb5'
         clear hown5 hb5 hb5')
      | (go_at_call_of 12 (Value.slice A5 (m.length + l.length) c5); ((with_reducible refine (greatest_at A5 c5 (m.length + l.length) (m ++ l) hml.out y HG2.out HHML.out _ HS5.out).mono ?_); rintro e w' ⟨rfl, rfl⟩))
      | (go_at_call 16; ((with_reducible refine (less_any x y _ HRX.out.1 HRX.out.2 HRY.out.1 HRY.out.2).mono ?_); rintro e w' ⟨rfl, rfl⟩)))
    go_ret
    exact ⟨rfl, HB5.out⟩
  · have hq' : lessB x y = false := by simpa using hq
    rw [show up x y = x from by unfold up; rw [if_neg hq]] at HG1 HG2
    clear hq
    go_enter Try.func9, Try.ntmps9
    go_wp2_with (first
      | (go_at_call 11; ((with_reducible refine (shown_any _).mono ?_); rintro e w1 ⟨rfl, hb⟩; have HL1 := Lib.hid (HL.out.below hb (Nat.le_refl _)); have HM1 := Lib.hid (HM.out.below hb (Nat.le_refl _)); have HB := Lib.hid hb; have hs1 := Lib.hid (show w.heap.size ≤ (w1.alloc (.cells #[] 22)).heap.size from by rw [World.size_alloc]; have := hb.size; omega); clear hb))
      | (go_at_call_of 12 (Value.slice A l.length c); ((with_reducible refine (greatest_at A c l.length l rfl x HX.out HHL.out _ HL1.out).mono ?_); rintro e w' ⟨rfl, rfl⟩))
      | (go_at_call_of 12 (Value.slice B m.length d); ((with_reducible refine (greatest_at B d m.length m rfl y HY.out HHM.out _ HM1.out).mono ?_); rintro e w' ⟨rfl, rfl⟩))
      | (at_builtin
         refine wpList_append_sl _ rfl (.tmp 46) (.tmp 47) 23 rfl w.heap.size 22 i0 _ 1 8 Try.underlying23 hi0 hz0 hz1 hz2 rfl Nat.one_pos _ 0 [] rfl (World.ownsRow_made w1 #[] 0 HB.out.size (Nat.zero_le _) rfl) A l.length c (l.map (Value.int .u64)) rfl hl1.out (HL1.out.sl.below ((Below.refl _ _).alloc (Nat.le_refl _) _) (Nat.le_refl _)) (ints_one _ _) hl2 hl3 hs1.out l.length hz.out ?_
         intro A2 c2 w2 hown2 hb2 _ _
         have hb2' := HB.out.trans (((Below.refl w.heap.size w1).alloc HB.out.size _).trans hb2)
         have HO2 := Lib.hid hown2
         have HB2 := Lib.hid hb2'
         have HM2 := Lib.hid ((HM.out.below hb2' (Nat.le_refl _)).sl)
         have hs2 := Lib.hid hb2'.size
         clear hown2 hb2 hb2')
      | (at_builtin
         refine wpList_append_sl _ rfl (.tmp 48) (.tmp 49) 23 rfl w.heap.size 22 i0 _ 1 8 Try.underlying23 hi0 hz0 hz1 hz2 rfl Nat.one_pos _ l.length _ rfl HO2.out B m.length d (m.map (Value.int .u64)) rfl hl1m.out HM2.out (ints_one _ _) hl4 hl5 hs2.out (l.length + m.length) rfl ?_
         intro A3 c3 w3 hown3 hb3 _ _
         have hb3' := HB2.out.trans hb3
         have HS3 := Lib.hid (Words.of_sl (l := l ++ m) (by rw [List.map_append]; exact own_sl hown3) hlen9.out hmem.out)
         have HM3 := Lib.hid (HM.out.below hb3' (Nat.le_refl _))
         have HB3 := Lib.hid hb3'
         have hs3 := Lib.hid (show w.heap.size ≤ (w3.alloc (.cells #[] 22)).heap.size from by rw [World.size_alloc]; have := hb3'.size; omega)
         clear hown3 hb3 hb3')
      | (go_at_call_of 12 (Value.slice A3 (l.length + m.length) c3); ((with_reducible refine (greatest_at A3 c3 (l.length + m.length) (l ++ m) hlm.out x HG1.out HHLM.out _ HS3.out).mono ?_); rintro e w' ⟨rfl, rfl⟩))
      | (at_builtin
         refine wpList_append_sl _ rfl (.tmp 55) (.tmp 56) 23 rfl w.heap.size 22 i0 _ 1 8 Try.underlying23 hi0 hz0 hz1 hz2 rfl Nat.one_pos _ 0 [] rfl (World.ownsRow_made w3 #[] 0 HB3.out.size (Nat.zero_le _) rfl) B m.length d (m.map (Value.int .u64)) rfl hl1m.out (HM3.out.sl.below ((Below.refl _ _).alloc (Nat.le_refl _) _) (Nat.le_refl _)) (ints_one _ _) hm2 hm3 hs3.out m.length hzm.out ?_
         intro A4 c4 w4 hown4 hb4 _ _
         have hb4' := HB3.out.trans (((Below.refl w.heap.size w3).alloc HB3.out.size _).trans hb4)
         have HO4 := Lib.hid hown4
         have HB4 := Lib.hid hb4'
         have HL4 := Lib.hid ((HL.out.below hb4' (Nat.le_refl _)).sl)
         have hs4 := Lib.hid hb4'.size
         clear hown4 hb4 hb4')
      | (at_builtin
         refine wpList_append_sl _ rfl (.tmp 57) (.tmp 58) 23 rfl w.heap.size 22 i0 _ 1 8 Try.underlying23 hi0 hz0 hz1 hz2 rfl Nat.one_pos _ m.length _ rfl HO4.out A l.length c (l.map (Value.int .u64)) rfl hl1.out HL4.out (ints_one _ _) hm4 hm5 hs4.out (m.length + l.length) rfl ?_
         intro A5 c5 w5 hown5 hb5 _ _
         have hb5' := HB4.out.trans hb5
         have HS5 := Lib.hid (Words.of_sl (l := m ++ l) (by rw [List.map_append]; exact own_sl hown5) hlen9m.out hmemm.out)
         have HB5 := Lib.hid hb5'
         clear hown5 hb5 hb5')
      | (go_at_call_of 12 (Value.slice A5 (m.length + l.length) c5); ((with_reducible refine (greatest_at A5 c5 (m.length + l.length) (m ++ l) hml.out x HG2.out HHML.out _ HS5.out).mono ?_); rintro e w' ⟨rfl, rfl⟩))
      | (go_at_call 16; ((with_reducible refine (less_any x y _ HRX.out.1 HRX.out.2 HRY.out.1 HRY.out.2).mono ?_); rintro e w' ⟨rfl, rfl⟩)))
    go_ret
    exact ⟨rfl, HB5.out⟩
end Go.Proofs.Ytmcfmikpcmbmbaa
