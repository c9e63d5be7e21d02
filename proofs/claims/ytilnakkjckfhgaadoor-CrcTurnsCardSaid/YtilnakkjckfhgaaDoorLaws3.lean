/- The walk through the statement CrcGoes. -/
import Derived.Test.YtilnakkjckfhgaaDoorLaws2
import Derived.Test.YtilnakkjckfhgaaDoorAid
import Derived.Deep.RegionWith
namespace Go.Proofs.YtilnakkjckfhgaaDoor
open Go.RowKit Aid

theorem byte_info : (Tryd.prog.info? 5).map (fun i => (i.zero, i.size, i.bytes)) = some (some (.int .u8 0), 1, 1) := by kernel_rfl
theorem Bytes.sl {w : World} {A : Option Addr} {l : List Int} (h : Bytes w A l) : Sl w A (l.map (Value.int .u8)) := fun hp => by
  rw [List.length_map] at hp
  obtain ⟨b, off, hA, hc⟩ := h.2.2 hp
  refine ⟨b, off, hA, fun j u hu => ?_⟩
  rw [List.getElem?_map, Option.map_eq_some_iff] at hu
  obtain ⟨x, hx, rfl⟩ := hu
  have hj : j < l.length := (List.getElem?_eq_some_iff.1 hx).1
  rw [hc j hj, List.getD_eq_getElem?_getD, hx]; rfl
theorem Bytes.of_sl {w : World} {A : Option Addr} {l : List Int} (h : Sl w A (l.map (Value.int .u8))) (hl : l.length ≤ 9223372036854775807) (hb : ∀ n ∈ l, 0 ≤ n ∧ n < 256) : Bytes w A l :=
  ⟨hl, hb, fun hp => by
    obtain ⟨b, off, hA, hc⟩ := h (by simpa using hp)
    refine ⟨b, off, hA, fun i hi => hc i _ ?_⟩
    rw [List.getElem?_map, List.getElem?_eq_getElem hi, List.getD_eq_getElem?_getD, List.getElem?_eq_getElem hi]; rfl⟩

theorem goes_walk (A B : Option Addr) (c d : Nat) (l m : List Int) (w : World) (ht : Tab w) (hl : Bytes w A l) (hm : Bytes w B m) :
    Calls Tryd.prog 4 #[.slice A l.length c, .slice B m.length d] w fun e w' => e = .returned (.bool true) ∧ Below w.heap.size w w' := by
  have HT := Lib.hid ht
  have HL := Lib.hid hl
  have HM := Lib.hid hm
  clear ht hl hm
  obtain ⟨i0, hi0, hz0, hz1, hz2⟩ := info_parts byte_info
  by_cases hlen : 1000 < l.length
  · go_enter Tryd.func4, Tryd.ntmps4
    go_wp2_with (go_at_call 10; refine (shown_any _ HT.out).mono ?_; rintro e w1 ⟨rfl, hb⟩)
    go_ret
    exact ⟨rfl, hb⟩
  by_cases hlen' : 1000 < m.length
  · go_enter Tryd.func4, Tryd.ntmps4
    go_wp2_with (go_at_call 10; refine (shown_any _ HT.out).mono ?_; rintro e w1 ⟨rfl, hb⟩)
    go_ret
    exact ⟨rfl, hb⟩
  · have hl1 := Lib.hid (show (l.map (Value.int .u8)).length = l.length * 1 from by simp)
    have hz := Lib.hid (show l.length = 0 + l.length from by simp)
    have hl2 : 0 + l.length ≤ maxLen := by unfold maxLen; omega
    have hl3 : (0 + l.length) * 1 ≤ 140737488355328 := by omega
    have hl1m := Lib.hid (show (m.map (Value.int .u8)).length = m.length * 1 from by simp)
    have hl4 : l.length + m.length ≤ maxLen := by unfold maxLen; omega
    have hl5 : (l.length + m.length) * 1 ≤ 140737488355328 := by omega
    have hlm := Lib.hid (show l.length + m.length = (l ++ m).length from by simp)
    have hlen9 := Lib.hid (show (l ++ m).length ≤ 9223372036854775807 from by rw [List.length_append]; omega)
    have hmem : Hid (∀ n ∈ l ++ m, 0 ≤ n ∧ n < 256) := fun n hn => (List.mem_append.1 hn).elim (HL.out.2.1 n) (HM.out.2.1 n)
    have hnil : Hid (∀ w' : World, Bytes w' none []) := fun _ => ⟨by simp, by simp, fun h => by simp at h⟩
    have heq1 : N (Plain.more (sum l) (m.map W)) = N (sum (l ++ m)) := by unfold sum; rw [Plain.more_append, List.map_append]
    have heq2 : Plain.more (sum l) [] = sum l := Plain.more_nil _
    go_enter Tryd.func4, Tryd.ntmps4
    go_wp2_with (first
      | (go_at_call 10; refine (shown_any _ HT.out).mono ?_; rintro e w1 ⟨rfl, hb⟩; have HT1 := Lib.hid (HT.out.below hb HT.out.heap); have HL1 := Lib.hid (HL.out.below hb (Nat.le_refl _)); have HM1 := Lib.hid (HM.out.below hb (Nat.le_refl _)); have HB := Lib.hid hb; have hs1 := Lib.hid (show w.heap.size ≤ (w1.alloc (.cells #[] 5)).heap.size from by rw [World.size_alloc]; have := hb.size; omega); clear hb)
      | (go_at_call_of 11 (Value.slice A l.length c); with_reducible refine (sum_at A c l.length l rfl _ HT1.out HL1.out).mono ?_; rintro e w' ⟨rfl, rfl⟩)
      | (go_at_call 13; with_reducible refine (more_at _ _ rfl B _ _ m rfl _ HT1.out HM1.out).mono ?_; rintro e w' ⟨rfl, rfl⟩)
      | (at_builtin
         refine wpList_append_sl _ rfl (.tmp 22) (.tmp 23) 23 rfl w.heap.size 5 i0 _ 1 1 Tryd.underlying23 hi0 hz0 hz1 hz2 rfl Nat.one_pos _ 0 [] rfl (World.ownsRow_made w1 #[] 0 HB.out.size (Nat.zero_le _) rfl) A l.length c (l.map (Value.int .u8)) rfl hl1.out (HL1.out.sl.below ((Below.refl _ _).alloc (Nat.le_refl _) _) (Nat.le_refl _)) (ints_one _ _) hl2 hl3 hs1.out l.length hz.out ?_
         intro A2 c2 w2 hown2 hb2 _ _
         have hb2' := HB.out.trans (((Below.refl w.heap.size w1).alloc HB.out.size _).trans hb2)
         have HO2 := Lib.hid hown2
         have HB2 := Lib.hid hb2'
         have HM2 := Lib.hid ((HM.out.below hb2' (Nat.le_refl _)).sl)
         have hs2 := Lib.hid hb2'.size
         clear hown2 hb2 hb2')
      | (at_builtin
         refine wpList_append_sl _ rfl (.tmp 24) (.tmp 25) 23 rfl w.heap.size 5 i0 _ 1 1 Tryd.underlying23 hi0 hz0 hz1 hz2 rfl Nat.one_pos _ l.length _ rfl HO2.out B m.length d (m.map (Value.int .u8)) rfl hl1m.out HM2.out (ints_one _ _) hl4 hl5 hs2.out (l.length + m.length) rfl ?_
         intro A3 c3 w3 hown3 hb3 _ _
         have hb3' := HB2.out.trans hb3
         have HS3 := Lib.hid (Bytes.of_sl (l := l ++ m) (by rw [List.map_append]; exact own_sl hown3) hlen9.out hmem.out)
         have HT3 := Lib.hid (HT.out.below hb3' HT.out.heap)
         have HL3 := Lib.hid (HL.out.below hb3' (Nat.le_refl _))
         have HB3 := Lib.hid hb3'
         clear hown3 hb3 hb3')
      | (go_at_call_of 11 (Value.slice A l.length c); with_reducible refine (sum_at A c l.length l rfl _ HT3.out HL3.out).mono ?_; rintro e w' ⟨rfl, rfl⟩)
      | (go_at_call 11; with_reducible refine (sum_at _ _ (l.length + m.length) (l ++ m) hlm.out _ HT3.out HS3.out).mono ?_; rintro e w' ⟨rfl, rfl⟩)
      | (go_at_call 13; with_reducible refine (more_at _ _ rfl none 0 0 [] rfl _ HT3.out (hnil.out _)).mono ?_; rintro e w' ⟨rfl, rfl⟩))
    go_ret
    exact ⟨rfl, HB3.out⟩
end Go.Proofs.YtilnakkjckfhgaaDoor
