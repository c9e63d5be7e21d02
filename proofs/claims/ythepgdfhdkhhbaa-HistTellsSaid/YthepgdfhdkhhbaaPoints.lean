/- hist.Points. -/
import Derived.Test.YthepgdfhdkhhbaaPts
namespace Go.Proofs.Ythepgdfhdkhhbaa
open Go.RowKit Aid

def pointsK (l : List Cl) (keys : List Int) : List Pt := l.flatMap fun c => ptsOf c keys
def pointsOf (l : List Cl) : List Pt := pointsK l (keysOf l)
theorem nears_le (c : Cl) (keys : List Int) : (nears c keys).length ≤ keys.length := by unfold nears; rw [List.length_map]; exact List.length_filter_le _ _
theorem pts_le (c : Cl) (keys : List Int) : (ptsOf c keys).length ≤ keys.length + 1 := by
  unfold ptsOf
  repeat' split
  all_goals first | (simp; done) | (simp only [List.length_cons]; have := nears_le c keys; omega)
theorem points_le (keys : List Int) : ∀ l : List Cl, (pointsK l keys).length ≤ l.length * (keys.length + 1)
  | [] => by simp [pointsK]
  | c :: l => by
    have h1 := pts_le c keys
    have h2 := points_le keys l
    unfold pointsK at h2 ⊢
    rw [List.flatMap_cons, List.length_append, List.length_cons, Nat.add_mul]
    omega
theorem points_next {l : List Cl} {keys : List Int} {k : Nat} (h : k < l.length) : pointsK (l.take (k + 1)) keys = pointsK (l.take k) keys ++ ptsOf l[k] keys := by
  unfold pointsK
  rw [List.take_succ_eq_append_getElem h, List.flatMap_append]
  simp
theorem keys_len (l : List Cl) : (keysOf l).length ≤ 2 * l.length := Nat.le_trans (uniq_le _) (names_le l)
set_option maxHeartbeats 8000000 in
set_option maxRecDepth 100000 in
theorem points_any (A : Option Addr) (c n : Nat) (l : List Cl) (w : World) (hn : n = l.length) (hl : Cls w A l) (h40 : l.length ≤ 1000) (hb : ∀ a ∈ l, a.list.length ≤ 9223372036854775807) :
    Calls Try.prog 22 #[.slice A n c] w fun e w' => ∃ B d, e = .returned (.slice B (pointsOf l).length d) ∧ Sl w' B (flat (pointsOf l)) ∧ Below w.heap.size w w' := by
  subst hn
  have HL := Lib.hid hl
  have HLL := Lib.hid hb
  have DK := Lib.hid (keys_any A c l.length l w rfl hl h40)
  have HKL := Lib.hid (keys_len l)
  clear hl hb
  obtain ⟨i0', hi0, hz0, hz1, hz2⟩ := info_parts pt_info
  unfold pointsOf
  generalize keysOf l = keys at DK HKL ⊢
  go_enter Try.func22, Try.ntmps22
  go_wp2_with (go_at_call 17; ((with_reducible refine DK.out.mono ?_); rintro e w1 ⟨K, d, rfl, hok, hb1⟩; have HOK := Lib.hid hok; have HB1 := Lib.hid hb1; clear hok hb1))
  go_loopw [4, 11] (fun sv j wr => ∃ k : Nat, k ≤ l.length ∧ j = .int .i64 k ∧ wr.ownsRow w1.heap.size 42 14 sv (pointsK (l.take k) keys).length (flat (pointsK (l.take k) keys)) ∧ Below w1.heap.size w1 wr) (fun _ j _ => l.length - (intOf j).toNat)
  case atStart => exact ⟨0, Nat.zero_le _, rfl, World.ownsRow_nil _ _ _ _, Below.refl _ _⟩
  case round =>
    obtain ⟨k, hk, rfl, ho, hb⟩ := hrel
    obtain ⟨T, tc, hT⟩ := own_any ho
    subst hT
    have HO := Lib.hid ho
    have HB := Lib.hid hb
    have HW := Lib.hid (HB1.out.trans (hb.mono HB1.out.size))
    clear ho hb
    by_cases hlt : k < l.length
    · obtain ⟨b, off, hA, hat⟩ := (HL.out.below HW.out (Nat.le_refl _)).get (List.getElem?_eq_getElem hlt)
      obtain ⟨c0, c1, c2, c3, c4, c5, c6, c7, c8, c9, c10, c11, c12⟩ := hat
      subst hA
      have HN := Lib.hid (points_next (keys := keys) hlt)
      have hle : (pointsK (l.take k) keys).length ≤ 1000 * 2001 := by
        refine Nat.le_trans (points_le keys _) (Nat.mul_le_mul ?_ ?_)
        · rw [List.length_take]; omega
        · have := HKL.out; omega
      have HSL := Lib.hid (HL.out.1 l[k] (List.getElem_mem hlt))
      have HBL := Lib.hid (HLL.out l[k] (List.getElem_mem hlt))
      generalize pointsK (l.take k) keys = ps at HO HN hle ⊢
      generalize l[k] = a at c0 c1 c2 c3 c4 c5 c6 c7 c8 c9 c10 c11 c12 HN HSL HBL
      have k0 : (0 : Int) ≤ (k : Int) := by omega
      have k1 : (k : Int) < (l.length : Int) := by omega
      have n3 : IntKind.i64.wrap ((k : Int) + 1) = (k : Int) + 1 := by rw [IntKind.wrap_i64] <;> omega
      have HA := Lib.hid (HB.out.alloc HB.out.size (bx a))
      have HOA := Lib.hid (HO.out.alloc (bx a))
      have hpl := pts_le a keys
      have hkl := HKL.out
      have DP := Lib.hid (pts_any a K keys.length d keys (wr.alloc (bx a)) rfl ((own_sl HOK.out).below HA.out (Nat.le_refl _)) (by omega) (HSL.out.below (HB1.out.trans (HA.out.mono HB1.out.size)) (Nat.le_refl _)) HBL.out)
      generalize ptsOf a keys = qs at DP HN hpl
      have m1 : ps.length + qs.length ≤ maxLen := by unfold maxLen; omega
      have y1 : (ps.length + qs.length) * 128 ≤ 140737488355328 := by omega
      have hfl := Lib.hid (flat_length qs)
      have AF : Hid (∀ w5, Below (wr.alloc (bx a)).heap.size (wr.alloc (bx a)) w5 → w5.ownsRow w1.heap.size 42 14 (.slice T ps.length tc) ps.length (flat ps) ∧ Below w1.heap.size w1 w5 ∧ w1.heap.size ≤ w5.heap.size) := Lib.hid fun w5 h5 =>
        ⟨row_below HOA.out h5 (Nat.le_refl _), HA.out.trans (h5.mono HA.out.size), Nat.le_trans HA.out.size h5.size⟩
      unfold Cl.val PtsPost bx at DP
      unfold bx at AF
      clear hpl hkl
      go_wp2_with (first
        | (go_at_call 36; ((with_reducible refine DP.out.mono ?_); rintro e w5 ⟨B, pd, rfl, hs, hb⟩; have HS := Lib.hid hs; have HF := Lib.hid (AF.out w5 hb); clear hs hb))
        | (at_builtin
           refine wpList_append_sl _ rfl (.tmp 15) (.tmp 18) 38 rfl w1.heap.size 42 i0' _ 14 128 Try.underlying38 hi0 hz0 hz1 hz2 rfl (by decide) _ ps.length _ rfl HF.out.1 B qs.length pd (flat qs) rfl hfl.out HS.out (flat_one _) m1 y1 HF.out.2.2 (ps.length + qs.length) rfl ?_
           intro A7 c7' w7 hown7 hb7 _ _
           have HO7 := Lib.hid hown7
           have HB7 := Lib.hid (HF.out.2.1.trans hb7)
           clear hown7 hb7))
      go_roundw
      case rel => exact ⟨k + 1, by omega, by go_num, by rw [HN.out, flat_append, List.length_append]; exact HO7.out, HB7.out⟩
      case measure => simp [intOf]; omega
    · obtain rfl : k = l.length := by omega
      rw [List.take_length] at HO ⊢
      have SL := Lib.hid (own_slk HO.out)
      go_wp2
      go_ret
      exact ⟨_, _, rfl, SL.out, HW.out⟩
end Go.Proofs.Ythepgdfhdkhhbaa
