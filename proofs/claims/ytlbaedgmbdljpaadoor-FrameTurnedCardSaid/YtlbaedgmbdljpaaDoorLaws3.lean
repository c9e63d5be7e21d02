/- The walk through the statement FrameAgain. -/
import Derived.Test.YtlbaedgmbdljpaaDoorLaws1
namespace Go.Proofs.YtlbaedgmbdljpaaDoor
open Go.RowKit Aid

theorem bytes2_num (l : List Int) (hl : l.length = 2) (hb : ∀ n ∈ l, 0 ≤ n ∧ n < 256) : bytesOf (num l) 2 = l := by
  match l, hl with
  | [a, b], _ =>
    have ha := hb a (by simp)
    have hb' := hb b (by simp)
    rw [num_cons, num_cons, num_nil]
    have e : ∀ v : Int, bytesOf v 2 = [v % 256, v / 256 % 256] := fun v => by simp [bytesOf, List.range_succ]
    rw [e]
    congr 1
    · omega
    · congr 1
      omega
theorem frame_body {s : List Int} (hf : Fits s) (hb : ∀ n ∈ s, 0 ≤ n ∧ n < 256) : frame (body s) = s.take (6 + size2 s) := by
  have h6 := hf.1
  have hl := body_length hf
  have e2 : bytesOf ((body s).length : Int) 2 = s.take 2 := by
    have hn := num_bound (s.take 2) (fun n hn => hb n (List.mem_of_mem_take hn))
    rw [hl, show ((size2 s : Nat) : Int) = num (s.take 2) from by unfold size2; omega]
    exact bytes2_num _ (by rw [List.length_take]; omega) (fun n hn => hb n (List.mem_of_mem_take hn))
  have e4 : bytesOf (N (sum (body s))) 4 = (s.drop 2).take 4 := by
    rw [hf.2.2.2]
    exact bytes4_num _ (by rw [List.length_take, List.length_drop]; omega) (fun n hn => hb n (List.mem_of_mem_drop (List.mem_of_mem_take hn)))
  unfold frame heads
  rw [e2, e4]
  unfold body
  have a1 : s.take 2 ++ (s.drop 2).take 4 = s.take 6 := by rw [← List.take_add]
  rw [a1, ← List.take_add]
/-- What frames make, one behind the other. -/
def flat (L : List (List Int)) : List Int := (L.map frame).flatten
theorem flat_nil : flat [] = [] := rfl
theorem flat_cons (b : List Int) (L : List (List Int)) : flat (b :: L) = frame b ++ flat L := rfl
theorem flat_append (L M : List (List Int)) : flat (L ++ M) = flat L ++ flat M := by unfold flat; rw [List.map_append, List.flatten_append]
theorem flat_next (L : List (List Int)) (k : Nat) (h : k < L.length) : flat (L.take (k + 1)) = flat (L.take k) ++ frame (L.getD k []) := by
  rw [List.take_succ_eq_append_getElem h, flat_append, List.getD_eq_getElem?_getD, List.getElem?_eq_getElem h, flat_cons, flat_nil, List.append_nil]; rfl
theorem flat_prefix (L : List (List Int)) (k : Nat) : (flat (L.take k)).length ≤ (flat L).length := by
  conv => rhs; rw [← List.take_append_drop k L, flat_append, List.length_append]
  omega
theorem flat_bounds {L : List (List Int)} (h : ∀ l ∈ L, ∀ n ∈ l, 0 ≤ n ∧ n < 256) : ∀ n ∈ flat L, 0 ≤ n ∧ n < 256 := fun n hn => by
  unfold flat at hn
  obtain ⟨x, hx, hn⟩ := List.mem_flatten.1 hn
  obtain ⟨l, hl, rfl⟩ := List.mem_map.1 hx
  exact frame_bounds (h l hl) n hn
theorem split_again : ∀ (k : Nat) (s : List Int), s.length ≤ k → (∀ n ∈ s, 0 ≤ n ∧ n < 256) → flat (splitOf s).1 = s.take (splitOf s).2
  | 0, s, h, _ => by rw [splitOf_stop (fun f => by have := f.1; omega)]; simp [flat]
  | k + 1, s, h, hb => by
    by_cases hf : Fits s
    · have h6 := hf.1
      have ih := split_again k (s.drop (6 + size2 s)) (by rw [List.length_drop]; omega) (fun n hn => hb n (List.mem_of_mem_drop hn))
      rw [splitOf_go hf]
      show flat (body s :: _) = _
      rw [flat_cons, ih, frame_body hf hb]
      exact List.take_add.symm
    · rw [splitOf_stop hf]; simp [flat]
theorem Bytes.part0 {w : World} {A : Option Addr} {l : List Int} (h : Bytes w A l) (k : Nat) : Bytes w A (l.take k) := by
  obtain ⟨h1, h2, h3⟩ := h
  refine ⟨by rw [List.length_take]; omega, fun n hn => h2 n (List.mem_of_mem_take hn), fun hp => ?_⟩
  rw [List.length_take] at hp
  obtain ⟨b, off, hA, hc⟩ := h3 (by omega)
  refine ⟨b, off, hA, fun i hi => ?_⟩
  rw [List.length_take] at hi
  rw [hc i (by omega), List.getD_eq_getElem?_getD, List.getD_eq_getElem?_getD, List.getElem?_take_of_lt (by omega)]
theorem own_any {w : World} {base : Nat} {e : TypeId} {v : Value} {n : Nat} {xs : List Value} (h : w.ownsRow base e 1 v n xs) : ∃ A c, v = .slice A n c := by
  rcases own_form h with ⟨rfl, rfl, _⟩ | ⟨g, cap, rfl, _⟩
  · exact ⟨none, 0, rfl⟩
  · exact ⟨_, _, rfl⟩

set_option maxHeartbeats 2000000 in
theorem again_walk (A : Option Addr) (c : Nat) (s : List Int) (w : World) (ht : Tab w) (hl : Bytes w A s) (hc : s.length ≤ c) (_hC : c ≤ 9223372036854775807) :
    Calls Tryd.prog 7 #[.slice A s.length c] w fun e w' => e = .returned (.bool true) ∧ Below w.heap.size w w' := by
  have HT := Lib.hid ht
  have HL := Lib.hid hl
  have hs9 := hl.1
  clear ht hl
  by_cases h1 : 2000 < s.length
  · go_enter Tryd.func7, Tryd.ntmps7
    go_wp2_with (go_at_call 9; refine (shown_any _ HT.out).mono ?_; rintro e w1 ⟨rfl, hb⟩)
    go_ret
    exact ⟨rfl, hb⟩
  · obtain ⟨i0, hi0, hz0, hz1, hz2⟩ := info_parts byte_info
    have hs5 : s.length ≤ 100000 := by omega
    obtain ⟨f1, f2, f3⟩ := split_facts _ s (Nat.le_refl _) HL.out.2.1
    have hag := split_again _ s (Nat.le_refl _) HL.out.2.1
    have hfl : (flat (splitOf s).1).length = (splitOf s).2 := by rw [hag, List.length_take]; omega
    have hSP := Lib.hid (fun (w0 : World) (hT : Tab w0) (hL : Bytes w0 A s) => split_gen A c s.length s rfl hc hs5 w0 hT hL)
    unfold SplitPost at hSP
    generalize (splitOf s).1 = L at f2 f3 hag hfl hSP
    generalize (splitOf s).2 = u at f1 hag hfl hSP
    have F3 := Lib.hid f3
    have HAG := Lib.hid hag
    have HFL := Lib.hid hfl
    clear f3 hag hfl
    go_enter Tryd.func7, Tryd.ntmps7
    go_wp2_with (first
      | (go_at_call 9; ((with_reducible refine (shown_any _ HT.out).mono ?_); rintro e w1 ⟨rfl, hb1⟩; have HB1 := Lib.hid hb1; have HT1 := Lib.hid (HT.out.below hb1 HT.out.heap); have HL1 := Lib.hid (HL.out.below hb1 (Nat.le_refl _)); clear hb1))
      | (go_at_call 12; ((with_reducible refine (hSP.out _ HT1.out HL1.out).mono ?_); rintro e w2 ⟨X, xd, rfl, hx, _, _, hb2⟩; have HB2 := Lib.hid (later HB1.out hb2); have HX2 := Lib.hid hx; clear hx hb2)))
    go_loopw [6, 7] (fun v i wr => ∃ k : Nat, k ≤ L.length ∧ i = .int .i64 k ∧ wr.ownsRow w2.heap.size 5 1 v (flat (L.take k)).length ((flat (L.take k)).map (Value.int .u8)) ∧ Below w2.heap.size w2 wr) (fun _ i _ => L.length - (intOf i).toNat)
    case atStart => exact ⟨0, Nat.zero_le _, rfl, World.ownsRow_nil _ _ _ _, Below.refl _ _⟩
    case round =>
      obtain ⟨k, hk, rfl, ho, hb⟩ := hrel
      have HBr := Lib.hid hb
      have HOr := Lib.hid ho
      have HB3 := Lib.hid (later HB2.out hb)
      have HT3 := Lib.hid (HT.out.below HB3.out HT.out.heap)
      obtain ⟨T, tc, hT⟩ := own_any ho
      clear ho hb
      subst hT
      by_cases hlt : k < L.length
      · obtain ⟨b, off, hX, hcs⟩ := (HX2.out.below HBr.out (Nat.le_refl _)).2 (by omega)
        obtain ⟨Ai, ci, _, _, hcell, hby⟩ := hcs k hlt
        subst hX
        have hF := F3.out (L.getD k []) (by rw [List.getD_eq_getElem?_getD, List.getElem?_eq_getElem hlt]; exact List.getElem_mem hlt)
        have hN := Lib.hid (flat_next L k hlt)
        have hP := flat_prefix L (k + 1)
        rw [HFL.out, hN.out, List.length_append, frame_length] at hP
        have HY := Lib.hid hby
        generalize L.getD k [] = x at hcell HY hF hN hP
        generalize hfk : flat (L.take k) = fk at HOr hN hP ⊢
        have x1 := Lib.hid (show 0 < x.length from by have := hF.1; omega)
        have x2 := Lib.hid hF.2.1
        have m1 : fk.length + (x.length + 6) ≤ maxLen := by unfold maxLen; omega
        have k1 : (fk.length + (x.length + 6)) * 1 ≤ 140737488355328 := by omega
        have l1 := Lib.hid (show ((frame x).map (Value.int .u8)).length = (x.length + 6) * 1 from by rw [List.length_map, frame_length]; omega)
        clear hcs hby hF hfk
        go_wp2_with (first
          | (go_at_call 10; ((with_reducible refine (put_at Ai ci x.length x rfl _ HT3.out HY.out x1.out x2.out).mono ?_); rintro e w4 ⟨g, pd, rfl, _, _, ho4, hb4⟩; have HO4 := Lib.hid (own_sl ho4); have HB4 := Lib.hid (later HBr.out hb4); have HR4 := Lib.hid (row_below HOr.out hb4 (Nat.le_refl _)); clear ho4 hb4))
          | (at_builtin
             refine wpList_append_sl _ rfl (.tmp 36) (.tmp 37) 22 rfl w2.heap.size 5 i0 _ 1 1 Tryd.underlying22 hi0 hz0 hz1 hz2 rfl Nat.one_pos _ fk.length _ rfl HR4.out (some ⟨g, 0, none⟩) (x.length + 6) pd ((frame x).map (Value.int .u8)) rfl l1.out HO4.out (ints_one _ _) m1 k1 HB4.out.size (fk.length + (x.length + 6)) rfl ?_
             intro A5 c5 w5 hown5 hb5 _ _
             have HO5 := Lib.hid hown5
             have HB5 := Lib.hid (HB4.out.trans hb5)
             clear hown5 hb5))
        go_roundw
        case rel => exact ⟨k + 1, by omega, by go_num, by rw [hN.out, List.length_append, frame_length, List.map_append]; exact HO5.out, HB5.out⟩
        case measure => simp [intOf]; omega
      · have hkl : k = L.length := by omega
        have e : (flat (L.take k)).length = u := by rw [hkl, List.take_length]; exact HFL.out
        have HO := Lib.hid HOr.out
        rw [e] at HO ⊢
        have hul := Lib.hid (show u = (s.take u).length from by rw [List.length_take]; omega)
        have hx : (flat (L.take k)).map (Value.int .u8) = (s.take u).map (Value.int .u8) := by rw [hkl, List.take_length, HAG.out]
        have HY : Hid (Bytes wr T (s.take u)) := Bytes.of_sl (by rw [← hx]; exact own_sl HO.out) (by rw [← hul.out]; omega) (fun n hn => HL.out.2.1 n (List.mem_of_mem_take hn))
        have HZ : Hid (Bytes wr A (s.take u)) := (HL.out.below HB3.out (Nat.le_refl _)).part0 u
        have c1 : ∀ r, (convert 22 9 (.slice T u tc)).run Tryd.prog (wr.drewN r) = .ok (.string (strOfNums (s.take u))) (wr.drewN r) := fun r => conv_any (HY.out.drewN r) _ _ hul.out
        have c2 : ∀ r, (convert 22 9 (.slice A u c)).run Tryd.prog (wr.drewN r) = .ok (.string (strOfNums (s.take u))) (wr.drewN r) := fun r => conv_any (HZ.out.drewN r) _ _ hul.out
        have i1 : (u : Int) ≤ (s.length : Int) := by omega
        have i2 : (0 : Int) ≤ (u : Int) := by omega
        have i3 : (u : Int) ≤ (c : Int) := by omega
        clear hx e
        subst hkl
        go_wp2
        go_quiet (fail)
        go_wp2
        go_ret
        exact ⟨rfl, below_drewN HB3.out _⟩
end Go.Proofs.YtlbaedgmbdljpaaDoor
