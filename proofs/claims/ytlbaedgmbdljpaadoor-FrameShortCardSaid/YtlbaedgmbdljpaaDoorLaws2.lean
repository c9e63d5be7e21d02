/- The walk through the statement FrameShort. -/
import Derived.Test.YtlbaedgmbdljpaaDoorLaws1
namespace Go.Proofs.YtlbaedgmbdljpaaDoor
open Go.RowKit Aid

theorem split_zeros (s : List Int) : splitOf (0 :: 0 :: s) = ([], 0) := splitOf_stop fun f => by
  have h : size2 (0 :: 0 :: s) = 0 := by
    unfold size2
    rw [show (0 :: 0 :: s : List Int).take 2 = [0, 0] from rfl, num_cons, num_cons, num_nil]
    rfl
  have := f.2.1
  omega
theorem Bytes.take {w : World} {A : Option Addr} {l : List Int} (h : Bytes w A l) (k : Nat) : Bytes w A (l.take k) := by
  obtain ⟨h1, h2, h3⟩ := h
  refine ⟨by rw [List.length_take]; omega, fun n hn => h2 n (List.mem_of_mem_take hn), fun hp => ?_⟩
  rw [List.length_take] at hp
  obtain ⟨b, off, hA, hc⟩ := h3 (by omega)
  refine ⟨b, off, hA, fun i hi => ?_⟩
  rw [List.length_take] at hi
  rw [hc i (by omega), List.getD_eq_getElem?_getD, List.getD_eq_getElem?_getD, List.getElem?_take_of_lt (by omega)]
/-- A text without frames is split into nothing. -/
theorem split_none (A : Option Addr) (cap n : Nat) (s : List Int) (hn : n = s.length) (hcap : s.length ≤ cap) (hs : s.length ≤ 100000) (h0 : splitOf s = ([], 0)) (w : World) (ht : Tab w) (hl : Bytes w A s) :
    Calls Tryd.prog 12 #[.slice A n cap] w fun e w' => ∃ B d, e = .returned (.tuple #[.slice B 0 d, .int .i64 0]) ∧ Below w.heap.size w w' := by
  refine (split_gen A cap n s hn hcap hs w ht hl).mono ?_
  rintro e w' ⟨B, d, rfl, _, _, _, hb⟩
  rw [h0]
  exact ⟨B, d, rfl, hb⟩
theorem two_len : (#[Value.int .u8 0, Value.int .u8 0] : Array Value).size ≤ maxLen := by simp [maxLen]
set_option maxHeartbeats 2000000 in
theorem short_00 (A B : Option Addr) (c d : Nat) (s b : List Int) (w : World) (ht : Tab w) (hl : Bytes w A s) (hm : Bytes w B b) (hc : s.length ≤ c) (h1 : s.length ≤ 300) (_h2 : b.length ≤ 300) (h0 : b.length = 0) (h6 : s.length ≤ 6) :
    Calls Tryd.prog 8 #[.slice A s.length c, .slice B b.length d] w fun e w' => e = .returned (.bool true) ∧ Below w.heap.size w w' := by
  have HT := Lib.hid ht
  have HL := Lib.hid hl
  have HM := Lib.hid hm
  clear ht hl hm
  obtain ⟨i0, hi0, hz0, hz1, hz2⟩ := info_parts byte_info
  have l1 := Lib.hid (show (s.map (Value.int .u8)).length = s.length * 1 from by simp)
  have m1 : 2 + s.length ≤ maxLen := by unfold maxLen; omega
  have k1 : (2 + s.length) * 1 ≤ 140737488355328 := by omega
  have r1 := Lib.hid (show s.length + 2 = 2 + s.length from by omega)
  have z0 := Lib.hid (split_zeros s)
  have z1 := Lib.hid (show (0 :: 0 :: s : List Int).length ≤ 100000 from by simp; omega)
  have z2 := Lib.hid (show s.length + 2 = (0 :: 0 :: s : List Int).length from by simp)
  have z9 := Lib.hid (show (0 :: 0 :: s : List Int).length ≤ 9223372036854775807 from by simp; omega)
  have zm := Lib.hid (show ∀ n ∈ (0 :: 0 :: s : List Int), 0 ≤ n ∧ n < 256 from fun n hn => by
    rcases List.mem_cons.1 hn with rfl | hn
    · omega
    · rcases List.mem_cons.1 hn with rfl | hn
      · omega
      · exact HL.out.2.1 n hn)
  have t0 := Lib.hid (splitOf_short (s.take 6) (by rw [List.length_take]; omega))
  have t1 := Lib.hid (show (s.take 6).length ≤ 100000 from by rw [List.length_take]; omega)
  have t2 := Lib.hid (show s.length = (s.take 6).length from by rw [List.length_take]; omega)
  have t3 := Lib.hid (show (s.take 6).length ≤ c from by rw [List.length_take]; omega)
  have hb1 := Lib.hid (show 0 < 1 ∨ 65535 < 0 from by omega)
  go_enter Tryd.func8, Tryd.ntmps8
  go_wp2_with (first
    | (go_at_call 9; ((with_reducible refine (shown_any _ HT.out).mono ?_); rintro e w1 ⟨rfl, hb1⟩; have HA1 := Lib.hid (hb1.alloc hb1.size (.cells #[Value.int .u8 0, Value.int .u8 0] 5)); have HR1 := Lib.hid (row_full w1 #[Value.int .u8 0, Value.int .u8 0] w.heap.size 5 hb1.size two_len); clear hb1))
    | (at_builtin
       refine wpList_append_sl _ rfl (.tmp 23) (.tmp 24) 22 rfl w.heap.size 5 i0 _ 1 1 Tryd.underlying22 hi0 hz0 hz1 hz2 rfl Nat.one_pos _ 2 _ rfl HR1.out A s.length c (s.map (Value.int .u8)) rfl l1.out ((HL.out.below HA1.out (Nat.le_refl _)).sl) (ints_one _ _) m1 k1 HA1.out.size (s.length + 2) r1.out ?_
       intro A2 c2 w2 hown2 hb2 _ _
       have HB2 := Lib.hid (HA1.out.trans hb2)
       have HT2 := Lib.hid (HT.out.below HB2.out HT.out.heap)
       have HY2 := Lib.hid (Bytes.of_sl (l := 0 :: 0 :: s) (own_sl hown2) z9.out zm.out)
       have HC2 := Lib.hid (show (0 :: 0 :: s : List Int).length ≤ c2 from (own_cap hown2).1)
       clear hown2 hb2)
    | (go_at_call 12; ((with_reducible refine (split_none A2 c2 (s.length + 2) (0 :: 0 :: s) z2.out HC2.out z1.out z0.out _ HT2.out HY2.out).mono ?_); rintro e w3 ⟨X, xd, rfl, hb3⟩; have HB3 := Lib.hid (later HB2.out hb3); have HT3 := Lib.hid (HT.out.below HB3.out HT.out.heap); have HM3 := Lib.hid (HM.out.below HB3.out (Nat.le_refl _)); clear hb3))
    | (go_at_call 10; ((with_reducible refine (put_no B d 0 _ hb1.out (Nat.zero_le _)).mono ?_); rintro e w4 ⟨rfl, rfl⟩; have HB4 := HB3; have HT4 := HT3; have HL4 := Lib.hid ((HL.out.below HB3.out (Nat.le_refl _)).take 6)))
    | (go_at_call 12; ((with_reducible refine (split_none A c s.length (s.take 6) t2.out t3.out t1.out t0.out _ HT4.out HL4.out).mono ?_); rintro e w5 ⟨Z, zd, rfl, hb5⟩; have HB5 := Lib.hid (later HB4.out hb5); clear hb5)))
  go_ret
  exact ⟨rfl, HB5.out⟩
set_option maxHeartbeats 2000000 in
theorem short_01 (A B : Option Addr) (c d : Nat) (s b : List Int) (w : World) (ht : Tab w) (hl : Bytes w A s) (hm : Bytes w B b) (hc : s.length ≤ c) (h1 : s.length ≤ 300) (_h2 : b.length ≤ 300) (h0 : b.length = 0) (h6 : 6 < s.length) :
    Calls Tryd.prog 8 #[.slice A s.length c, .slice B b.length d] w fun e w' => e = .returned (.bool true) ∧ Below w.heap.size w w' := by
  have HT := Lib.hid ht
  have HL := Lib.hid hl
  have HM := Lib.hid hm
  clear ht hl hm
  obtain ⟨i0, hi0, hz0, hz1, hz2⟩ := info_parts byte_info
  have l1 := Lib.hid (show (s.map (Value.int .u8)).length = s.length * 1 from by simp)
  have m1 : 2 + s.length ≤ maxLen := by unfold maxLen; omega
  have k1 : (2 + s.length) * 1 ≤ 140737488355328 := by omega
  have r1 := Lib.hid (show s.length + 2 = 2 + s.length from by omega)
  have z0 := Lib.hid (split_zeros s)
  have z1 := Lib.hid (show (0 :: 0 :: s : List Int).length ≤ 100000 from by simp; omega)
  have z2 := Lib.hid (show s.length + 2 = (0 :: 0 :: s : List Int).length from by simp)
  have z9 := Lib.hid (show (0 :: 0 :: s : List Int).length ≤ 9223372036854775807 from by simp; omega)
  have zm := Lib.hid (show ∀ n ∈ (0 :: 0 :: s : List Int), 0 ≤ n ∧ n < 256 from fun n hn => by
    rcases List.mem_cons.1 hn with rfl | hn
    · omega
    · rcases List.mem_cons.1 hn with rfl | hn
      · omega
      · exact HL.out.2.1 n hn)
  have t0 := Lib.hid (splitOf_short (s.take 6) (by rw [List.length_take]; omega))
  have t1 := Lib.hid (show (s.take 6).length ≤ 100000 from by rw [List.length_take]; omega)
  have t2 := Lib.hid (show 6 = (s.take 6).length from by rw [List.length_take]; omega)
  have t3 := Lib.hid (show (s.take 6).length ≤ c from by rw [List.length_take]; omega)
  have hb1 := Lib.hid (show 0 < 1 ∨ 65535 < 0 from by omega)
  go_enter Tryd.func8, Tryd.ntmps8
  go_wp2_with (first
    | (go_at_call 9; ((with_reducible refine (shown_any _ HT.out).mono ?_); rintro e w1 ⟨rfl, hb1⟩; have HA1 := Lib.hid (hb1.alloc hb1.size (.cells #[Value.int .u8 0, Value.int .u8 0] 5)); have HR1 := Lib.hid (row_full w1 #[Value.int .u8 0, Value.int .u8 0] w.heap.size 5 hb1.size two_len); clear hb1))
    | (at_builtin
       refine wpList_append_sl _ rfl (.tmp 23) (.tmp 24) 22 rfl w.heap.size 5 i0 _ 1 1 Tryd.underlying22 hi0 hz0 hz1 hz2 rfl Nat.one_pos _ 2 _ rfl HR1.out A s.length c (s.map (Value.int .u8)) rfl l1.out ((HL.out.below HA1.out (Nat.le_refl _)).sl) (ints_one _ _) m1 k1 HA1.out.size (s.length + 2) r1.out ?_
       intro A2 c2 w2 hown2 hb2 _ _
       have HB2 := Lib.hid (HA1.out.trans hb2)
       have HT2 := Lib.hid (HT.out.below HB2.out HT.out.heap)
       have HY2 := Lib.hid (Bytes.of_sl (l := 0 :: 0 :: s) (own_sl hown2) z9.out zm.out)
       have HC2 := Lib.hid (show (0 :: 0 :: s : List Int).length ≤ c2 from (own_cap hown2).1)
       clear hown2 hb2)
    | (go_at_call 12; ((with_reducible refine (split_none A2 c2 (s.length + 2) (0 :: 0 :: s) z2.out HC2.out z1.out z0.out _ HT2.out HY2.out).mono ?_); rintro e w3 ⟨X, xd, rfl, hb3⟩; have HB3 := Lib.hid (later HB2.out hb3); have HT3 := Lib.hid (HT.out.below HB3.out HT.out.heap); have HM3 := Lib.hid (HM.out.below HB3.out (Nat.le_refl _)); clear hb3))
    | (go_at_call 10; ((with_reducible refine (put_no B d 0 _ hb1.out (Nat.zero_le _)).mono ?_); rintro e w4 ⟨rfl, rfl⟩; have HB4 := HB3; have HT4 := HT3; have HL4 := Lib.hid ((HL.out.below HB3.out (Nat.le_refl _)).take 6)))
    | (go_at_call 12; ((with_reducible refine (split_none A c 6 (s.take 6) t2.out t3.out t1.out t0.out _ HT4.out HL4.out).mono ?_); rintro e w5 ⟨Z, zd, rfl, hb5⟩; have HB5 := Lib.hid (later HB4.out hb5); clear hb5)))
  go_ret
  exact ⟨rfl, HB5.out⟩
set_option maxHeartbeats 2000000 in
theorem short_10 (A B : Option Addr) (c d : Nat) (s b : List Int) (w : World) (ht : Tab w) (hl : Bytes w A s) (hm : Bytes w B b) (hc : s.length ≤ c) (h1 : s.length ≤ 300) (h2 : b.length ≤ 300) (h0 : 0 < b.length) (h6 : s.length ≤ 6) :
    Calls Tryd.prog 8 #[.slice A s.length c, .slice B b.length d] w fun e w' => e = .returned (.bool true) ∧ Below w.heap.size w w' := by
  have HT := Lib.hid ht
  have HL := Lib.hid hl
  have HM := Lib.hid hm
  clear ht hl hm
  obtain ⟨i0, hi0, hz0, hz1, hz2⟩ := info_parts byte_info
  have l1 := Lib.hid (show (s.map (Value.int .u8)).length = s.length * 1 from by simp)
  have m1 : 2 + s.length ≤ maxLen := by unfold maxLen; omega
  have k1 : (2 + s.length) * 1 ≤ 140737488355328 := by omega
  have r1 := Lib.hid (show s.length + 2 = 2 + s.length from by omega)
  have z0 := Lib.hid (split_zeros s)
  have z1 := Lib.hid (show (0 :: 0 :: s : List Int).length ≤ 100000 from by simp; omega)
  have z2 := Lib.hid (show s.length + 2 = (0 :: 0 :: s : List Int).length from by simp)
  have z9 := Lib.hid (show (0 :: 0 :: s : List Int).length ≤ 9223372036854775807 from by simp; omega)
  have zm := Lib.hid (show ∀ n ∈ (0 :: 0 :: s : List Int), 0 ≤ n ∧ n < 256 from fun n hn => by
    rcases List.mem_cons.1 hn with rfl | hn
    · omega
    · rcases List.mem_cons.1 hn with rfl | hn
      · omega
      · exact HL.out.2.1 n hn)
  have t0 := Lib.hid (splitOf_short (s.take 6) (by rw [List.length_take]; omega))
  have t1 := Lib.hid (show (s.take 6).length ≤ 100000 from by rw [List.length_take]; omega)
  have t2 := Lib.hid (show s.length = (s.take 6).length from by rw [List.length_take]; omega)
  have t3 := Lib.hid (show (s.take 6).length ≤ c from by rw [List.length_take]; omega)
  have hb1 := Lib.hid (show 0 < b.length from by omega)
  have hb2 := Lib.hid (show b.length ≤ 65535 from by omega)
  go_enter Tryd.func8, Tryd.ntmps8
  go_wp2_with (first
    | (go_at_call 9; ((with_reducible refine (shown_any _ HT.out).mono ?_); rintro e w1 ⟨rfl, hb1⟩; have HA1 := Lib.hid (hb1.alloc hb1.size (.cells #[Value.int .u8 0, Value.int .u8 0] 5)); have HR1 := Lib.hid (row_full w1 #[Value.int .u8 0, Value.int .u8 0] w.heap.size 5 hb1.size two_len); clear hb1))
    | (at_builtin
       refine wpList_append_sl _ rfl (.tmp 23) (.tmp 24) 22 rfl w.heap.size 5 i0 _ 1 1 Tryd.underlying22 hi0 hz0 hz1 hz2 rfl Nat.one_pos _ 2 _ rfl HR1.out A s.length c (s.map (Value.int .u8)) rfl l1.out ((HL.out.below HA1.out (Nat.le_refl _)).sl) (ints_one _ _) m1 k1 HA1.out.size (s.length + 2) r1.out ?_
       intro A2 c2 w2 hown2 hb2 _ _
       have HB2 := Lib.hid (HA1.out.trans hb2)
       have HT2 := Lib.hid (HT.out.below HB2.out HT.out.heap)
       have HY2 := Lib.hid (Bytes.of_sl (l := 0 :: 0 :: s) (own_sl hown2) z9.out zm.out)
       have HC2 := Lib.hid (show (0 :: 0 :: s : List Int).length ≤ c2 from (own_cap hown2).1)
       clear hown2 hb2)
    | (go_at_call 12; ((with_reducible refine (split_none A2 c2 (s.length + 2) (0 :: 0 :: s) z2.out HC2.out z1.out z0.out _ HT2.out HY2.out).mono ?_); rintro e w3 ⟨X, xd, rfl, hb3⟩; have HB3 := Lib.hid (later HB2.out hb3); have HT3 := Lib.hid (HT.out.below HB3.out HT.out.heap); have HM3 := Lib.hid (HM.out.below HB3.out (Nat.le_refl _)); clear hb3))
    | (go_at_call 10; ((with_reducible refine (put_at B d b.length b rfl _ HT3.out HM3.out hb1.out hb2.out).mono ?_); rintro e w4 ⟨g, pd, rfl, _, _, _, hb4⟩; have HB4 := Lib.hid (later HB3.out hb4); have HT4 := Lib.hid (HT.out.below HB4.out HT.out.heap); have HL4 := Lib.hid ((HL.out.below HB4.out (Nat.le_refl _)).take 6); clear hb4))
    | (go_at_call 12; ((with_reducible refine (split_none A c s.length (s.take 6) t2.out t3.out t1.out t0.out _ HT4.out HL4.out).mono ?_); rintro e w5 ⟨Z, zd, rfl, hb5⟩; have HB5 := Lib.hid (later HB4.out hb5); clear hb5)))
  go_ret
  exact ⟨rfl, HB5.out⟩
set_option maxHeartbeats 2000000 in
theorem short_11 (A B : Option Addr) (c d : Nat) (s b : List Int) (w : World) (ht : Tab w) (hl : Bytes w A s) (hm : Bytes w B b) (hc : s.length ≤ c) (h1 : s.length ≤ 300) (h2 : b.length ≤ 300) (h0 : 0 < b.length) (h6 : 6 < s.length) :
    Calls Tryd.prog 8 #[.slice A s.length c, .slice B b.length d] w fun e w' => e = .returned (.bool true) ∧ Below w.heap.size w w' := by
  have HT := Lib.hid ht
  have HL := Lib.hid hl
  have HM := Lib.hid hm
  clear ht hl hm
  obtain ⟨i0, hi0, hz0, hz1, hz2⟩ := info_parts byte_info
  have l1 := Lib.hid (show (s.map (Value.int .u8)).length = s.length * 1 from by simp)
  have m1 : 2 + s.length ≤ maxLen := by unfold maxLen; omega
  have k1 : (2 + s.length) * 1 ≤ 140737488355328 := by omega
  have r1 := Lib.hid (show s.length + 2 = 2 + s.length from by omega)
  have z0 := Lib.hid (split_zeros s)
  have z1 := Lib.hid (show (0 :: 0 :: s : List Int).length ≤ 100000 from by simp; omega)
  have z2 := Lib.hid (show s.length + 2 = (0 :: 0 :: s : List Int).length from by simp)
  have z9 := Lib.hid (show (0 :: 0 :: s : List Int).length ≤ 9223372036854775807 from by simp; omega)
  have zm := Lib.hid (show ∀ n ∈ (0 :: 0 :: s : List Int), 0 ≤ n ∧ n < 256 from fun n hn => by
    rcases List.mem_cons.1 hn with rfl | hn
    · omega
    · rcases List.mem_cons.1 hn with rfl | hn
      · omega
      · exact HL.out.2.1 n hn)
  have t0 := Lib.hid (splitOf_short (s.take 6) (by rw [List.length_take]; omega))
  have t1 := Lib.hid (show (s.take 6).length ≤ 100000 from by rw [List.length_take]; omega)
  have t2 := Lib.hid (show 6 = (s.take 6).length from by rw [List.length_take]; omega)
  have t3 := Lib.hid (show (s.take 6).length ≤ c from by rw [List.length_take]; omega)
  have hb1 := Lib.hid (show 0 < b.length from by omega)
  have hb2 := Lib.hid (show b.length ≤ 65535 from by omega)
  go_enter Tryd.func8, Tryd.ntmps8
  go_wp2_with (first
    | (go_at_call 9; ((with_reducible refine (shown_any _ HT.out).mono ?_); rintro e w1 ⟨rfl, hb1⟩; have HA1 := Lib.hid (hb1.alloc hb1.size (.cells #[Value.int .u8 0, Value.int .u8 0] 5)); have HR1 := Lib.hid (row_full w1 #[Value.int .u8 0, Value.int .u8 0] w.heap.size 5 hb1.size two_len); clear hb1))
    | (at_builtin
       refine wpList_append_sl _ rfl (.tmp 23) (.tmp 24) 22 rfl w.heap.size 5 i0 _ 1 1 Tryd.underlying22 hi0 hz0 hz1 hz2 rfl Nat.one_pos _ 2 _ rfl HR1.out A s.length c (s.map (Value.int .u8)) rfl l1.out ((HL.out.below HA1.out (Nat.le_refl _)).sl) (ints_one _ _) m1 k1 HA1.out.size (s.length + 2) r1.out ?_
       intro A2 c2 w2 hown2 hb2 _ _
       have HB2 := Lib.hid (HA1.out.trans hb2)
       have HT2 := Lib.hid (HT.out.below HB2.out HT.out.heap)
       have HY2 := Lib.hid (Bytes.of_sl (l := 0 :: 0 :: s) (own_sl hown2) z9.out zm.out)
       have HC2 := Lib.hid (show (0 :: 0 :: s : List Int).length ≤ c2 from (own_cap hown2).1)
       clear hown2 hb2)
    | (go_at_call 12; ((with_reducible refine (split_none A2 c2 (s.length + 2) (0 :: 0 :: s) z2.out HC2.out z1.out z0.out _ HT2.out HY2.out).mono ?_); rintro e w3 ⟨X, xd, rfl, hb3⟩; have HB3 := Lib.hid (later HB2.out hb3); have HT3 := Lib.hid (HT.out.below HB3.out HT.out.heap); have HM3 := Lib.hid (HM.out.below HB3.out (Nat.le_refl _)); clear hb3))
    | (go_at_call 10; ((with_reducible refine (put_at B d b.length b rfl _ HT3.out HM3.out hb1.out hb2.out).mono ?_); rintro e w4 ⟨g, pd, rfl, _, _, _, hb4⟩; have HB4 := Lib.hid (later HB3.out hb4); have HT4 := Lib.hid (HT.out.below HB4.out HT.out.heap); have HL4 := Lib.hid ((HL.out.below HB4.out (Nat.le_refl _)).take 6); clear hb4))
    | (go_at_call 12; ((with_reducible refine (split_none A c 6 (s.take 6) t2.out t3.out t1.out t0.out _ HT4.out HL4.out).mono ?_); rintro e w5 ⟨Z, zd, rfl, hb5⟩; have HB5 := Lib.hid (later HB4.out hb5); clear hb5)))
  go_ret
  exact ⟨rfl, HB5.out⟩
theorem short_walk (A B : Option Addr) (c d : Nat) (s b : List Int) (w : World) (ht : Tab w) (hl : Bytes w A s) (hm : Bytes w B b) (hc : s.length ≤ c) (_hC : c ≤ 9223372036854775807) :
    Calls Tryd.prog 8 #[.slice A s.length c, .slice B b.length d] w fun e w' => e = .returned (.bool true) ∧ Below w.heap.size w w' := by
  have hb9 := hl.1
  have hs9 := hm.1
  by_cases h1 : 300 < s.length
  · have HT := Lib.hid ht
    clear ht hl hm
    go_enter Tryd.func8, Tryd.ntmps8
    go_wp2_with (go_at_call 9; refine (shown_any _ HT.out).mono ?_; rintro e w1 ⟨rfl, hb⟩)
    go_ret
    exact ⟨rfl, hb⟩
  by_cases h2 : 300 < b.length
  · have HT := Lib.hid ht
    clear ht hl hm
    go_enter Tryd.func8, Tryd.ntmps8
    go_wp2_with (go_at_call 9; refine (shown_any _ HT.out).mono ?_; rintro e w1 ⟨rfl, hb⟩)
    go_ret
    exact ⟨rfl, hb⟩
  by_cases h0 : b.length = 0
  · by_cases h6 : s.length ≤ 6
    · exact short_00 A B c d s b w ht hl hm hc (by omega) (by omega) h0 h6
    · exact short_01 A B c d s b w ht hl hm hc (by omega) (by omega) h0 (by omega)
  · by_cases h6 : s.length ≤ 6
    · exact short_10 A B c d s b w ht hl hm hc (by omega) (by omega) (by omega) h6
    · exact short_11 A B c d s b w ht hl hm hc (by omega) (by omega) (by omega) (by omega)
end Go.Proofs.YtlbaedgmbdljpaaDoor
