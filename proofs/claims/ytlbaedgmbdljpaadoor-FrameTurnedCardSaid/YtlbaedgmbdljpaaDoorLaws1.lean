/- The walk through the statement FrameTells. -/
import Derived.Test.YtlbaedgmbdljpaaDoorGen
namespace Go.Proofs.YtlbaedgmbdljpaaDoor
open Go.RowKit Aid

theorem later {w w1 w2 : World} (h1 : Below w.heap.size w w1) (h2 : Below w1.heap.size w1 w2) : Below w.heap.size w w2 := h1.trans (h2.mono h1.size)
set_option maxHeartbeats 2000000 in
theorem tells_walk (A B : Option Addr) (c d : Nat) (b s : List Int) (w : World) (ht : Tab w) (hl : Bytes w A b) (hm : Bytes w B s) (hd : s.length ≤ d) :
    Calls Tryd.prog 3 #[.slice A b.length c, .slice B s.length d] w fun e w' => e = .returned (.bool true) ∧ Below w.heap.size w w' := by
  have HT := Lib.hid ht
  have HL := Lib.hid hl
  have HM := Lib.hid hm
  have hb9 := hl.1
  have hs9 := hm.1
  clear ht hl hm
  by_cases h1 : 2000 < b.length
  · go_enter Tryd.func3, Tryd.ntmps3
    go_wp2_with (go_at_call 9; refine (shown_any _ HT.out).mono ?_; rintro e w1 ⟨rfl, hb⟩)
    go_ret
    exact ⟨rfl, hb⟩
  by_cases h2 : 2000 < s.length
  · go_enter Tryd.func3, Tryd.ntmps3
    go_wp2_with (go_at_call 9; refine (shown_any _ HT.out).mono ?_; rintro e w1 ⟨rfl, hb⟩)
    go_ret
    exact ⟨rfl, hb⟩
  · have hs5 : s.length ≤ 100000 := by omega
    go_enter Tryd.func3, Tryd.ntmps3
    go_wp2_with (first
      | (go_at_call 9; ((with_reducible refine (shown_any _ HT.out).mono ?_); rintro e w1 ⟨rfl, hb1⟩; have HB1 := Lib.hid hb1; have HT1 := Lib.hid (HT.out.below hb1 HT.out.heap); have HL1 := Lib.hid (HL.out.below hb1 (Nat.le_refl _)); clear hb1))
      | (go_at_call 10; ((with_reducible refine (put_gen A c b.length b rfl _ HT1.out HL1.out).mono ?_); rintro e w2 ⟨P, pd, rfl, hp, _, _, hb2⟩; have HB2 := Lib.hid (later HB1.out hb2); have HL2 := Lib.hid (HL.out.below HB2.out (Nat.le_refl _)); have HP2 := Lib.hid hp; clear hp hb2))
      | (go_at_call 11; ((with_reducible refine (refPut_gen A c b.length b rfl _ HL2.out).mono ?_); rintro e w3 ⟨Q, qd, rfl, hq, _, _, hb3⟩; have HB3 := Lib.hid (later HB2.out hb3); have HM3 := Lib.hid (HM.out.below HB3.out (Nat.le_refl _)); have HT3 := Lib.hid (HT.out.below HB3.out HT.out.heap); have HP3 := Lib.hid (HP2.out.below hb3 (Nat.le_refl _)); have HQ3 := Lib.hid hq; clear hq hb3))
      | (go_at_call 12; ((with_reducible refine (split_gen B d s.length s rfl hd hs5 _ HT3.out HM3.out).mono ?_); rintro e w4 ⟨X, xd, rfl, hx, _, _, hb4⟩; have HB4 := Lib.hid (later HB3.out hb4); have HM4 := Lib.hid (HM.out.below HB4.out (Nat.le_refl _)); have HP4 := Lib.hid (HP3.out.below hb4 (Nat.le_refl _)); have HQ4 := Lib.hid (HQ3.out.below hb4 (Nat.le_refl _)); have HX4 := Lib.hid hx; clear hx hb4))
      | (go_at_call 13; ((with_reducible refine (refSplit_gen B d s.length s rfl hd hs5 _ HM4.out).mono ?_); rintro e w5 ⟨Y, yd, rfl, hy, _, _, hb5⟩; have HB5 := Lib.hid (later HB4.out hb5); have HX5 := Lib.hid (HX4.out.below hb5 (Nat.le_refl _)); have HY5 := Lib.hid hy; have c1 := conv_any (HP4.out.below hb5 (Nat.le_refl _)) pd _ rfl; have c2 := conv_any (HQ4.out.below hb5 (Nat.le_refl _)) qd _ rfl; clear hy hb5))
      | (go_at_call 14; ((with_reducible refine (rows_same X Y xd yd _ _ (splitOf s).1 (splitOf s).1 rfl rfl rfl _ HX5.out HY5.out).mono ?_); rintro e w6 ⟨rfl, hb6⟩; have HB6 := Lib.hid (later HB5.out hb6); clear hb6)))
    go_ret
    exact ⟨rfl, HB6.out⟩
end Go.Proofs.YtlbaedgmbdljpaaDoor
