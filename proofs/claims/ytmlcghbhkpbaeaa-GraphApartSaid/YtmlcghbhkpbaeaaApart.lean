/- GraphApart: whatever comes in. -/
import Derived.Test.YtmlcghbhkpbaeaaApart1
import Derived.Test.YtmlcghbhkpbaeaaApart2
import Derived.Test.YtmlcghbhkpbaeaaApart3
import Derived.Test.YtmlcghbhkpbaeaaApart4
import Derived.Test.YtmlcghbhkpbaeaaStays
namespace Go.Proofs.Ytmlcghbhkpbaeaa
open Go.RowKit Aid

theorem apart_any (A : Option Addr) (c n : Nat) (g : List Arc) (a b : Op) (w : World) (hn : n = g.length) (hl : Arcs w A g) (fa : a.Fine) (fb : b.Fine) : Calls Try.prog 5 #[.slice A n c, .agg #[.int .i64 a.k, .int .i64 a.u, .int .i64 a.v, .int .u64 a.w], .agg #[.int .i64 b.k, .int .i64 b.u, .int .i64 b.v, .int .u64 b.w]] w fun e w' => e = .returned (.bool true) ∧ Below w.heap.size w w' := by
  by_cases h : 40 < n
  · exact apart_long A c n _ _ _ _ _ _ _ _ w h
  have h40 : n ≤ 40 := by omega
  cases hr : rightB g
  · exact apart_wrong A c n g _ _ _ _ _ _ _ _ w hn hl h40 hr
  have hR := R.ofB hr
  have FA := fun (hF : Far a b) => And.intro
    (Lib.hid fun (W : World) (B : Option Addr) (hB : Arcs W B g) => do_eq c (o := a) hn hB hR.rises (by omega) fa rfl rfl rfl)
    (And.intro (Lib.hid fun (W : World) (B : Option Addr) (d : Nat) (hB : Arcs W B (doG g a)) => do_eq d (o := b) rfl hB (hR.do a).rises (by have := len_do g a; omega) fb rfl (far_doA hR.rises hF) rfl)
    (And.intro (Lib.hid fun (W : World) (B : Option Addr) (hB : Arcs W B g) => do_eq c (o := b) hn hB hR.rises (by omega) fb rfl rfl rfl)
    (Lib.hid fun (W : World) (B : Option Addr) (d : Nat) (hB : Arcs W B (doG g b)) => do_eq d (o := a) rfl hB (hR.do b).rises (by have := len_do g b; omega) fa (far_do hR.rises hF).symm (far_doA hR.rises hF.symm) rfl)))
  have l1 := ans_len g a
  have l2 := ans_len g b
  have l3 := len_do g a
  have l4 := len_do (doG g a) b
  obtain ⟨ka, ua, va, xa⟩ := a
  obtain ⟨kb, ub, vb, xb⟩ := b
  simp only
  rcases (show (14 ≤ ka ∧ ka ≤ 16) ∨ ka < 14 ∨ 17 < ka ∨ ka = 17 by omega) with ⟨ha1, ha2⟩ | ha1 | ha1 | ha1
  · rcases (show (14 ≤ kb ∧ kb ≤ 16) ∨ kb < 14 ∨ 17 < kb ∨ kb = 17 by omega) with ⟨hb1, hb2⟩ | hb1 | hb1 | hb1
    · by_cases nua_ub : ua = ub
      · subst nua_ub; exact apart_EE_uu A c n g ka ua va xa kb vb xb w hn hl h40 hr ha1 ha2 hb1 hb2
      by_cases nua_vb : ua = vb
      · subst nua_vb; exact apart_EE_uv A c n g ka ua va xa kb ub xb w hn hl h40 hr ha1 ha2 hb1 hb2 nua_ub
      by_cases nva_ub : va = ub
      · subst nva_ub; exact apart_EE_vu A c n g ka ua va xa kb vb xb w hn hl h40 hr ha1 ha2 hb1 hb2 nua_ub nua_vb
      by_cases nva_vb : va = vb
      · subst nva_vb; exact apart_EE_vv A c n g ka ua va xa kb ub xb w hn hl h40 hr ha1 ha2 hb1 hb2 nua_ub nua_vb nva_ub
      have hF : Far ⟨ka, ua, va, xa⟩ ⟨kb, ub, vb, xb⟩ := ⟨nua_ub, fun _ => nua_vb, fun _ => nva_ub, by simp only; omega, by simp only; omega⟩
      exact apart_EE_full A c n _ _ _ g _ _ _ _ _ ka ua va xa kb ub vb xb w hn hl h40 hr ha1 ha2 hb1 hb2 nua_ub nua_vb nva_ub nva_vb rfl (by omega) (by omega) (by omega) (FA hF).1 (FA hF).2.1 (FA hF).2.2.1 (FA hF).2.2.2
    · by_cases nua_ub : ua = ub
      · subst nua_ub; exact apart_EL_uu A c n g ka ua va xa kb vb xb w hn hl h40 hr ha1 ha2 hb1
      by_cases nva_ub : va = ub
      · subst nva_ub; exact apart_EL_vu A c n g ka ua va xa kb vb xb w hn hl h40 hr ha1 ha2 hb1 nua_ub
      have hF : Far ⟨ka, ua, va, xa⟩ ⟨kb, ub, vb, xb⟩ := ⟨nua_ub, fun q => absurd (of_decide_eq_true q) (by simp only; omega), fun _ => nva_ub, by simp only; omega, by simp only; omega⟩
      exact apart_EL_full A c n _ _ _ g _ _ _ _ _ ka ua va xa kb ub vb xb w hn hl h40 hr ha1 ha2 hb1 nua_ub nva_ub rfl (by omega) (by omega) (by omega) (FA hF).1 (FA hF).2.1 (FA hF).2.2.1 (FA hF).2.2.2
    · by_cases nua_ub : ua = ub
      · subst nua_ub; exact apart_EH_uu A c n g ka ua va xa kb vb xb w hn hl h40 hr ha1 ha2 hb1
      by_cases nva_ub : va = ub
      · subst nva_ub; exact apart_EH_vu A c n g ka ua va xa kb vb xb w hn hl h40 hr ha1 ha2 hb1 nua_ub
      have hF : Far ⟨ka, ua, va, xa⟩ ⟨kb, ub, vb, xb⟩ := ⟨nua_ub, fun q => absurd (of_decide_eq_true q) (by simp only; omega), fun _ => nva_ub, by simp only; omega, by simp only; omega⟩
      exact apart_EH_full A c n _ _ _ g _ _ _ _ _ ka ua va xa kb ub vb xb w hn hl h40 hr ha1 ha2 hb1 nua_ub nva_ub rfl (by omega) (by omega) (by omega) (FA hF).1 (FA hF).2.1 (FA hF).2.2.1 (FA hF).2.2.2
    · subst hb1; exact apart_ES_near A c n g ka ua va xa ub vb xb w hn hl h40 hr ha1 ha2
  · rcases (show (14 ≤ kb ∧ kb ≤ 16) ∨ kb < 14 ∨ 17 < kb ∨ kb = 17 by omega) with ⟨hb1, hb2⟩ | hb1 | hb1 | hb1
    · by_cases nua_ub : ua = ub
      · subst nua_ub; exact apart_LE_uu A c n g ka ua va xa kb vb xb w hn hl h40 hr ha1 hb1 hb2
      by_cases nua_vb : ua = vb
      · subst nua_vb; exact apart_LE_uv A c n g ka ua va xa kb ub xb w hn hl h40 hr ha1 hb1 hb2 nua_ub
      have hF : Far ⟨ka, ua, va, xa⟩ ⟨kb, ub, vb, xb⟩ := ⟨nua_ub, fun _ => nua_vb, fun q => absurd (of_decide_eq_true q) (by simp only; omega), by simp only; omega, by simp only; omega⟩
      exact apart_LE_full A c n _ _ _ g _ _ _ _ _ ka ua va xa kb ub vb xb w hn hl h40 hr ha1 hb1 hb2 nua_ub nua_vb rfl (by omega) (by omega) (by omega) (FA hF).1 (FA hF).2.1 (FA hF).2.2.1 (FA hF).2.2.2
    · by_cases nua_ub : ua = ub
      · subst nua_ub; exact apart_LL_uu A c n g ka ua va xa kb vb xb w hn hl h40 hr ha1 hb1
      have hF : Far ⟨ka, ua, va, xa⟩ ⟨kb, ub, vb, xb⟩ := ⟨nua_ub, fun q => absurd (of_decide_eq_true q) (by simp only; omega), fun q => absurd (of_decide_eq_true q) (by simp only; omega), by simp only; omega, by simp only; omega⟩
      exact apart_LL_full A c n _ _ _ g _ _ _ _ _ ka ua va xa kb ub vb xb w hn hl h40 hr ha1 hb1 nua_ub rfl (by omega) (by omega) (by omega) (FA hF).1 (FA hF).2.1 (FA hF).2.2.1 (FA hF).2.2.2
    · by_cases nua_ub : ua = ub
      · subst nua_ub; exact apart_LH_uu A c n g ka ua va xa kb vb xb w hn hl h40 hr ha1 hb1
      have hF : Far ⟨ka, ua, va, xa⟩ ⟨kb, ub, vb, xb⟩ := ⟨nua_ub, fun q => absurd (of_decide_eq_true q) (by simp only; omega), fun q => absurd (of_decide_eq_true q) (by simp only; omega), by simp only; omega, by simp only; omega⟩
      exact apart_LH_full A c n _ _ _ g _ _ _ _ _ ka ua va xa kb ub vb xb w hn hl h40 hr ha1 hb1 nua_ub rfl (by omega) (by omega) (by omega) (FA hF).1 (FA hF).2.1 (FA hF).2.2.1 (FA hF).2.2.2
    · subst hb1; exact apart_LS_near A c n g ka ua va xa ub vb xb w hn hl h40 hr ha1
  · rcases (show (14 ≤ kb ∧ kb ≤ 16) ∨ kb < 14 ∨ 17 < kb ∨ kb = 17 by omega) with ⟨hb1, hb2⟩ | hb1 | hb1 | hb1
    · by_cases nua_ub : ua = ub
      · subst nua_ub; exact apart_HE_uu A c n g ka ua va xa kb vb xb w hn hl h40 hr ha1 hb1 hb2
      by_cases nua_vb : ua = vb
      · subst nua_vb; exact apart_HE_uv A c n g ka ua va xa kb ub xb w hn hl h40 hr ha1 hb1 hb2 nua_ub
      have hF : Far ⟨ka, ua, va, xa⟩ ⟨kb, ub, vb, xb⟩ := ⟨nua_ub, fun _ => nua_vb, fun q => absurd (of_decide_eq_true q) (by simp only; omega), by simp only; omega, by simp only; omega⟩
      exact apart_HE_full A c n _ _ _ g _ _ _ _ _ ka ua va xa kb ub vb xb w hn hl h40 hr ha1 hb1 hb2 nua_ub nua_vb rfl (by omega) (by omega) (by omega) (FA hF).1 (FA hF).2.1 (FA hF).2.2.1 (FA hF).2.2.2
    · by_cases nua_ub : ua = ub
      · subst nua_ub; exact apart_HL_uu A c n g ka ua va xa kb vb xb w hn hl h40 hr ha1 hb1
      have hF : Far ⟨ka, ua, va, xa⟩ ⟨kb, ub, vb, xb⟩ := ⟨nua_ub, fun q => absurd (of_decide_eq_true q) (by simp only; omega), fun q => absurd (of_decide_eq_true q) (by simp only; omega), by simp only; omega, by simp only; omega⟩
      exact apart_HL_full A c n _ _ _ g _ _ _ _ _ ka ua va xa kb ub vb xb w hn hl h40 hr ha1 hb1 nua_ub rfl (by omega) (by omega) (by omega) (FA hF).1 (FA hF).2.1 (FA hF).2.2.1 (FA hF).2.2.2
    · by_cases nua_ub : ua = ub
      · subst nua_ub; exact apart_HH_uu A c n g ka ua va xa kb vb xb w hn hl h40 hr ha1 hb1
      have hF : Far ⟨ka, ua, va, xa⟩ ⟨kb, ub, vb, xb⟩ := ⟨nua_ub, fun q => absurd (of_decide_eq_true q) (by simp only; omega), fun q => absurd (of_decide_eq_true q) (by simp only; omega), by simp only; omega, by simp only; omega⟩
      exact apart_HH_full A c n _ _ _ g _ _ _ _ _ ka ua va xa kb ub vb xb w hn hl h40 hr ha1 hb1 nua_ub rfl (by omega) (by omega) (by omega) (FA hF).1 (FA hF).2.1 (FA hF).2.2.1 (FA hF).2.2.2
    · subst hb1; exact apart_HS_near A c n g ka ua va xa ub vb xb w hn hl h40 hr ha1
  · subst ha1
    rcases (show (14 ≤ kb ∧ kb ≤ 16) ∨ kb < 14 ∨ 17 < kb ∨ kb = 17 by omega) with ⟨hb1, hb2⟩ | hb1 | hb1 | hb1
    · exact apart_SE_near A c n g ua va xa kb ub vb xb w hn hl h40 hr hb1 hb2
    · exact apart_SL_near A c n g ua va xa kb ub vb xb w hn hl h40 hr hb1
    · exact apart_SH_near A c n g ua va xa kb ub vb xb w hn hl h40 hr hb1
    · subst hb1; exact apart_SS_near A c n g ua va xa ub vb xb w hn hl h40 hr 
end Go.Proofs.Ytmlcghbhkpbaeaa
