/- frame.Put and its reference: both lay the same frame. -/
import Derived.Test.YtlbaedgmbdljpaaDoorNums
namespace Go.Proofs.YtlbaedgmbdljpaaDoor
open Go.RowKit Aid

theorem Tab.below {B : Nat} {w w' : World} (h : Tab w) (hb : Below B w w') (hB : 0 < B) : Tab w' := fun k hk => (hb.cell (p := ⟨0, k, none⟩) hB).trans (h k hk)
theorem Tab.heap {w : World} (h : Tab w) : 0 < w.heap.size := World.block_lt_of_cell? w ⟨0, 0, none⟩ (h 0 (by omega))
theorem Bytes.below {B : Nat} {w w' : World} {A : Option Addr} {l : List Int} (h : Bytes w A l) (hb : Below B w w') (hB : w.heap.size ≤ B) : Bytes w' A l := by
  obtain ⟨h1, h2, h3⟩ := h
  refine ⟨h1, h2, fun hp => ?_⟩
  obtain ⟨b, off, hA, hc⟩ := h3 hp
  exact ⟨b, off, hA, fun i hi => (hb.cell (p := ⟨b, off + i, none⟩) (Nat.lt_of_lt_of_le (World.block_lt_of_cell? _ _ (hc i hi)) hB)).trans (hc i hi)⟩

/-- What stands ahead of a frame's bytes. -/
def heads (l : List Int) : List Int := bytesOf (l.length : Int) 2 ++ bytesOf (N (sum l)) 4
/-- A frame. -/
def frame (l : List Int) : List Int := heads l ++ l
theorem heads_length (l : List Int) : (heads l).length = 6 := by simp [heads, bytesOf]
theorem frame_length (l : List Int) : (frame l).length = l.length + 6 := by rw [frame, List.length_append, heads_length]; omega

theorem laid2 (x : Int) (base : Nat) (w : World) (hb : base ≤ w.heap.size) :
    Calls Tryd.prog 15 #[.slice none 0 0, .int .u64 x, .int .i64 2] w fun e w' => ∃ A c, e = .returned (.slice A 2 c) ∧ w'.ownsRow base 5 1 (.slice A 2 c) 2 ((bytesOf x 2).map (Value.int .u8)) ∧ Below base w w' := by
  have h := laid_any x base (.slice none 0 0) 0 [] w hb (by omega) (World.ownsRow_nil _ _ _ _) 2 (by omega)
  simp only [Nat.zero_add, List.nil_append] at h
  exact h
theorem laid4 (x : Int) (base : Nat) (xs : List Value) (A : Option Addr) (c : Nat) (w : World) (hb : base ≤ w.heap.size) (ho : w.ownsRow base 5 1 (.slice A 2 c) 2 xs) :
    Calls Tryd.prog 15 #[.slice A 2 c, .int .u64 x, .int .i64 4] w fun e w' => ∃ A c, e = .returned (.slice A 6 c) ∧ w'.ownsRow base 5 1 (.slice A 6 c) 6 (xs ++ (bytesOf x 4).map (Value.int .u8)) ∧ Below base w w' :=
  laid_any x base (.slice A 2 c) 2 xs w hb (by omega) ho 4 (by omega)

/-- frame.Put, where it puts. -/
theorem put_yes (base : Nat) (A : Option Addr) (c : Nat) (l : List Int) (w : World) (hb : base ≤ w.heap.size) (hpos : 0 < base) (ht : Tab w) (hl : Bytes w A l) (hlb : w.heap.size ≤ base) (h0 : 0 < l.length) (h1 : l.length ≤ 65535) :
    Calls Tryd.prog 10 #[.slice A l.length c] w fun e w' => ∃ B d, e = .returned (.tuple #[.slice B (l.length + 6) d, .int .i64 0]) ∧ w'.ownsRow base 5 1 (.slice B (l.length + 6) d) (l.length + 6) ((frame l).map (Value.int .u8)) ∧ Below base w w' := by
  have HT := Lib.hid ht
  have HL := Lib.hid hl
  have HB := Lib.hid hb
  have HP := Lib.hid hpos
  have HLB := Lib.hid hlb
  have hn0 := N_nonneg (sum l)
  have hn1 := N_lt (sum l)
  have hl1 := Lib.hid (show (l.map (Value.int .u8)).length = l.length * 1 from by simp)
  have hl2 : 6 + l.length ≤ maxLen := by unfold maxLen; omega
  have hl3 : (6 + l.length) * 1 ≤ 140737488355328 := by omega
  have hr : Hid (l.length + 6 = 6 + l.length) := by show _ = _; omega
  clear ht hl hb hpos hlb
  obtain ⟨i0, hi0, hz0, hz1, hz2⟩ := info_parts byte_info
  go_enter Tryd.func10, Tryd.ntmps10
  go_wp2_with (first
    | (go_at_call 15; ((with_reducible refine (laid2 (l.length : Int) base _ HB.out).mono ?_); rintro e w1 ⟨A1, c1, rfl, ho1, hb1⟩; have HO1 := Lib.hid ho1; have HT1 := Lib.hid (HT.out.below hb1 HP.out); have HL1 := Lib.hid (HL.out.below hb1 HLB.out); have HB1 := Lib.hid hb1; have HS1 := Lib.hid (Nat.le_trans HB.out hb1.size); clear ho1 hb1))
    | (go_at_call 16; ((with_reducible refine (sum_at A c l.length l rfl _ HT1.out HL1.out).mono ?_); rintro e w' ⟨rfl, rfl⟩))
    | (go_at_call 15; ((with_reducible refine (laid4 (N (sum l)) base _ _ _ _ HS1.out HO1.out).mono ?_); rintro e w2 ⟨A2, c2, rfl, ho2, hb2⟩; have HO2 := Lib.hid ho2; have HL2 := Lib.hid ((HL.out.below (HB1.out.trans hb2) HLB.out).sl); have HB2 := Lib.hid (HB1.out.trans hb2); have HS2 := Lib.hid (Nat.le_trans HS1.out hb2.size); clear ho2 hb2))
    | (at_builtin
       refine wpList_append_sl _ rfl (.tmp 22) (.tmp 23) 22 rfl base 5 i0 _ 1 1 Tryd.underlying22 hi0 hz0 hz1 hz2 rfl Nat.one_pos _ 6 _ rfl HO2.out A l.length c (l.map (Value.int .u8)) rfl hl1.out HL2.out (ints_one _ _) hl2 hl3 HS2.out (l.length + 6) hr.out ?_
       intro A3 c3 w3 hown3 hb3 _ _
       have HO3 := Lib.hid hown3
       have HB3 := Lib.hid (HB2.out.trans hb3)
       clear hown3 hb3))
  go_ret2
  exact ⟨_, _, rfl, by unfold frame heads; rw [List.map_append, List.map_append]; exact HO3.out, HB3.out⟩

theorem put_no (A : Option Addr) (c n : Nat) (w : World) (h : n < 1 ∨ 65535 < n) (hn : n ≤ 9223372036854775807) :
    Calls Tryd.prog 10 #[.slice A n c] w fun e w' => e = .returned (.tuple #[.slice none 0 0, .int .i64 1]) ∧ w = w' := by
  rcases h with h | h
  · obtain rfl : n = 0 := by omega
    go_enter Tryd.func10, Tryd.ntmps10
    go_wp2
    go_ret2
    exact ⟨rfl, rfl⟩
  · go_enter Tryd.func10, Tryd.ntmps10
    go_wp2
    go_ret2
    exact ⟨rfl, rfl⟩
theorem refPut_no (A : Option Addr) (c n : Nat) (w : World) (h : n < 1 ∨ 65535 < n) (hn : n ≤ 9223372036854775807) :
    Calls Tryd.prog 11 #[.slice A n c] w fun e w' => e = .returned (.tuple #[.slice none 0 0, .int .i64 1]) ∧ w = w' := by
  rcases h with h | h
  · obtain rfl : n = 0 := by omega
    go_enter Tryd.func11, Tryd.ntmps11
    go_wp2
    go_ret2
    exact ⟨rfl, rfl⟩
  · go_enter Tryd.func11, Tryd.ntmps11
    go_wp2
    go_ret2
    exact ⟨rfl, rfl⟩
theorem row_full (w : World) (cur : Array Value) (base : Nat) (e : TypeId) (hb : base ≤ w.heap.size) (hm : cur.size ≤ maxLen) : (w.alloc (.cells cur e)).ownsRow base e 1 (.slice (some ⟨w.heap.size, 0, none⟩) cur.size cur.size) cur.size cur.toList :=
  ⟨by simp, .inr ⟨w.heap.size, cur.size, cur, rfl, hb, heap_alloc_new w _, Nat.le_refl _, hm, by simp, by rw [Nat.mul_one, ← Array.length_toList, List.take_length]⟩⟩
/-- The six bytes as the reference writes them. -/
theorem heads_six (l : List Int) (h1 : l.length ≤ 65535) : (heads l).map (Value.int .u8) = [.int .u8 ((l.length : Int) % 256), .int .u8 ((l.length : Int) / 256), .int .u8 (N (sum l) % 256), .int .u8 (N (sum l) / 256 % 256), .int .u8 (N (sum l) / 65536 % 256), .int .u8 (N (sum l) / 16777216)] := by
  have n0 := N_nonneg (sum l)
  have n1 := N_lt (sum l)
  have e1 : (l.length : Int) / 256 % 256 = (l.length : Int) / 256 := by omega
  have e2 : N (sum l) / 16777216 % 256 = N (sum l) / 16777216 := by omega
  unfold heads bytesOf
  simp [List.range_succ, e1, e2]
/-- wealdref04.Put, where it puts. -/
theorem refPut_yes (base : Nat) (A : Option Addr) (c : Nat) (l : List Int) (w : World) (hb : base ≤ w.heap.size) (hl : Bytes w A l) (hlb : w.heap.size ≤ base) (h0 : 0 < l.length) (h1 : l.length ≤ 65535) :
    Calls Tryd.prog 11 #[.slice A l.length c] w fun e w' => ∃ B d, e = .returned (.tuple #[.slice B (l.length + 6) d, .int .i64 0]) ∧ w'.ownsRow base 5 1 (.slice B (l.length + 6) d) (l.length + 6) ((frame l).map (Value.int .u8)) ∧ Below base w w' := by
  have HL := Lib.hid hl
  have HB := Lib.hid hb
  have hn0 := N_nonneg (sum l)
  have hn1 := N_lt (sum l)
  have hl1 := Lib.hid (show (l.map (Value.int .u8)).length = l.length * 1 from by simp)
  have hl2 : 6 + l.length ≤ maxLen := by unfold maxLen; omega
  have hl3 : (6 + l.length) * 1 ≤ 140737488355328 := by omega
  have hr : Hid (l.length + 6 = 6 + l.length) := by show _ = _; omega
  have HR := Lib.hid (row_full w #[.int .u8 ((l.length : Int) % 256), .int .u8 ((l.length : Int) / 256), .int .u8 (N (sum l) % 256), .int .u8 (N (sum l) / 256 % 256), .int .u8 (N (sum l) / 65536 % 256), .int .u8 (N (sum l) / 16777216)] base 5 hb (by simp [maxLen]))
  have HA := Lib.hid ((Below.refl base w).alloc hb (.cells #[.int .u8 ((l.length : Int) % 256), .int .u8 ((l.length : Int) / 256), .int .u8 (N (sum l) % 256), .int .u8 (N (sum l) / 256 % 256), .int .u8 (N (sum l) / 65536 % 256), .int .u8 (N (sum l) / 16777216)] 5))
  have HL2 := Lib.hid ((HL.out.below HA.out hlb).sl)
  have HS2 := Lib.hid (Nat.le_trans hb HA.out.size)
  clear hl hb hlb
  obtain ⟨i0, hi0, hz0, hz1, hz2⟩ := info_parts byte_info
  go_enter Tryd.func11, Tryd.ntmps11
  go_wp2_with (first
    | (go_at_call 17; ((with_reducible refine (refSum_at A c l.length l rfl _ HL.out).mono ?_); rintro e w' ⟨rfl, rfl⟩))
    | (at_builtin
       refine wpList_append_sl _ rfl (.tmp 38) (.tmp 39) 22 rfl base 5 i0 _ 1 1 Tryd.underlying22 hi0 hz0 hz1 hz2 rfl Nat.one_pos _ 6 _ rfl (HR.out) A l.length c (l.map (Value.int .u8)) rfl hl1.out HL2.out (ints_one _ _) hl2 hl3 HS2.out (l.length + 6) hr.out ?_
       intro A3 c3 w3 hown3 hb3 _ _
       have HO3 := Lib.hid hown3
       have HB3 := Lib.hid (HA.out.trans hb3)
       clear hown3 hb3))
  go_ret2
  exact ⟨_, _, rfl, by unfold frame; rw [List.map_append, heads_six l h1]; exact HO3.out, HB3.out⟩
end Go.Proofs.YtlbaedgmbdljpaaDoor
