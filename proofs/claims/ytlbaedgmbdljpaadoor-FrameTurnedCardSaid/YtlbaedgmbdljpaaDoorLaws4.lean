/- The walk through the statement FrameJoins. -/
import Derived.Test.YtlbaedgmbdljpaaDoorLaws3
namespace Go.Proofs.YtlbaedgmbdljpaaDoor
open Go.RowKit Aid

theorem fits_more {s t : List Int} (h : Fits s) : Fits (s ++ t) ∧ size2 (s ++ t) = size2 s ∧ body (s ++ t) = body s ∧ (s ++ t).drop (6 + size2 s) = s.drop (6 + size2 s) ++ t := by
  have h6 := h.1
  have hn := h.2.2.1
  have e1 : size2 (s ++ t) = size2 s := by unfold size2; rw [List.take_append_of_le_length (by omega)]
  have e2 : body (s ++ t) = body s := by
    unfold body
    rw [e1, List.drop_append_of_le_length (by omega), List.take_append_of_le_length (by rw [List.length_drop]; omega)]
  refine ⟨⟨by rw [List.length_append]; omega, by rw [e1]; exact h.2.1, by rw [e1, List.length_append]; omega, ?_⟩, e1, e2, List.drop_append_of_le_length (by omega)⟩
  rw [e2, List.drop_append_of_le_length (by omega), List.take_append_of_le_length (by rw [List.length_drop]; omega)]
  exact h.2.2.2
theorem split_joins : ∀ (k : Nat) (s t : List Int), s.length ≤ k → (∀ n ∈ s, 0 ≤ n ∧ n < 256) → splitOf (s.take (splitOf s).2 ++ t) = ((splitOf s).1 ++ (splitOf t).1, (splitOf s).2 + (splitOf t).2)
  | 0, s, t, h, _ => by rw [splitOf_stop (s := s) (fun f => by have := f.1; omega)]; simp
  | k + 1, s, t, h, hb => by
    by_cases hf : Fits s
    · have h6 := hf.1
      have h1 := hf.2.1
      have h2 := hf.2.2.1
      have ih := split_joins k (s.drop (6 + size2 s)) t (by rw [List.length_drop]; omega) (fun n hn => hb n (List.mem_of_mem_drop hn))
      have hle : size2 s ≤ 65535 := by
        have hq := num_bound (s.take 2) (fun n hn => hb n (List.mem_of_mem_take hn))
        rw [show (s.take 2).length = 2 from by rw [List.length_take]; omega] at hq
        unfold size2; omega
      have hl := body_length hf
      rw [splitOf_go hf]
      show splitOf (s.take (6 + size2 s + _) ++ t) = (body s :: _ ++ _, 6 + size2 s + _ + _)
      rw [List.take_add, ← frame_body hf hb, List.append_assoc, splitOf_frame _ _ (by omega) (by omega), ih, hl]
      simp only [List.cons_append, Nat.add_assoc]
    · rw [splitOf_stop (s := s) hf]; simp
/-- The slices that a row of slices holds. -/
theorem Rws.sl {w : World} {A : Option Addr} {L : List (List Int)} (h : Rws w A L) : ∃ us : List Value, us.length = L.length ∧ Sl w A us ∧ (∀ u ∈ us, u.oneCell' = true) ∧ ∀ i, i < L.length → ∃ Ai ci, (L.getD i []).length ≤ ci ∧ ci ≤ 9223372036854775807 ∧ us[i]? = some (.slice Ai (L.getD i []).length ci) ∧ Bytes w Ai (L.getD i []) := by
  by_cases hp : 0 < L.length
  · obtain ⟨b, off, hA, hc⟩ := h.2 hp
    refine ⟨(List.range L.length).map fun i => (w.cell? ⟨b, off + i, none⟩).getD undef, by simp, fun _ => ⟨b, off, hA, fun j u hu => ?_⟩, fun u hu => ?_, fun i hi => ?_⟩
    · rw [List.getElem?_map, Option.map_eq_some_iff] at hu
      obtain ⟨j', hj, rfl⟩ := hu
      obtain ⟨hlt, hj'⟩ := List.getElem?_eq_some_iff.1 hj
      rw [List.getElem_range] at hj'
      subst hj'
      rw [List.length_range] at hlt
      obtain ⟨Ai, ci, _, _, hcell, _⟩ := hc j hlt
      rw [hcell]; rfl
    · obtain ⟨i, hi, rfl⟩ := List.mem_map.1 hu
      obtain ⟨Ai, ci, _, _, hcell, _⟩ := hc i (List.mem_range.1 hi)
      rw [hcell]; rfl
    · obtain ⟨Ai, ci, h1, h2, hcell, hby⟩ := hc i hi
      refine ⟨Ai, ci, h1, h2, ?_, hby⟩
      rw [List.getElem?_map, List.getElem?_range hi, Option.map_some, hcell]; rfl
  · exact ⟨[], by simp; omega, fun h => by simp at h, fun u hu => by simp at hu, fun i hi => by omega⟩
/-- A row of the call's own that holds such slices. -/
theorem Rws.of_row {w : World} {base : Nat} {A : Option Addr} {n c : Nat} {us : List Value} {L : List (List Int)} (ho : w.ownsRow base 22 1 (.slice A n c) n us) (hn : n = L.length) (hL : L.length ≤ 9223372036854775807)
    (h : ∀ i, i < L.length → ∃ Ai ci, (L.getD i []).length ≤ ci ∧ ci ≤ 9223372036854775807 ∧ us[i]? = some (.slice Ai (L.getD i []).length ci) ∧ Bytes w Ai (L.getD i [])) : Rws w A L := by
  subst hn
  refine ⟨hL, fun hp => ?_⟩
  have hlen : us.length = L.length := by have := ho.1; omega
  obtain ⟨b, off, hA, hc⟩ := own_sl ho (by omega)
  refine ⟨b, off, hA, fun i hi => ?_⟩
  obtain ⟨Ai, ci, h1, h2, h3, h4⟩ := h i hi
  exact ⟨Ai, ci, h1, h2, hc i _ h3, h4⟩
/-- Two rows of slices, one behind the other. -/
theorem held_append {w : World} {L M : List (List Int)} {us vs : List Value} (hl : us.length = L.length)
    (h1 : ∀ i, i < L.length → ∃ Ai ci, (L.getD i []).length ≤ ci ∧ ci ≤ 9223372036854775807 ∧ us[i]? = some (.slice Ai (L.getD i []).length ci) ∧ Bytes w Ai (L.getD i []))
    (h2 : ∀ i, i < M.length → ∃ Ai ci, (M.getD i []).length ≤ ci ∧ ci ≤ 9223372036854775807 ∧ vs[i]? = some (.slice Ai (M.getD i []).length ci) ∧ Bytes w Ai (M.getD i [])) :
    ∀ i, i < (L ++ M).length → ∃ Ai ci, ((L ++ M).getD i []).length ≤ ci ∧ ci ≤ 9223372036854775807 ∧ (us ++ vs)[i]? = some (.slice Ai ((L ++ M).getD i []).length ci) ∧ Bytes w Ai ((L ++ M).getD i []) := fun i hi => by
  rw [List.length_append] at hi
  by_cases hlt : i < L.length
  · have e : (L ++ M).getD i [] = L.getD i [] := by rw [List.getD_eq_getElem?_getD, List.getD_eq_getElem?_getD, List.getElem?_append_left hlt]
    rw [e, List.getElem?_append_left (by omega)]
    exact h1 i hlt
  · have e : (L ++ M).getD i [] = M.getD (i - L.length) [] := by rw [List.getD_eq_getElem?_getD, List.getD_eq_getElem?_getD, List.getElem?_append_right (by omega)]
    rw [e, List.getElem?_append_right (by omega), hl]
    exact h2 (i - L.length) (by omega)

theorem split_to (A : Option Addr) (cap n : Nat) (s : List Int) (hn : n = s.length) (hcap : s.length ≤ cap) (hs : s.length ≤ 100000) (L : List (List Int)) (q : Nat) (z : Int) (h : (splitOf s).1 = L) (hq : q = L.length) (hz : ((splitOf s).2 : Int) = z) (w : World) (ht : Tab w) (hl : Bytes w A s) :
    Calls Tryd.prog 12 #[.slice A n cap] w fun e w' => ∃ B d, e = .returned (.tuple #[.slice B q d, .int .i64 z]) ∧ Rws w' B L ∧ q ≤ d ∧ d ≤ 9223372036854775807 ∧ Below w.heap.size w w' := by
  subst h; subst hq; subst hz
  exact split_gen A cap n s hn hcap hs w ht hl
set_option maxHeartbeats 4000000 in
theorem joins_walk (A B : Option Addr) (c d : Nat) (s t : List Int) (w : World) (ht : Tab w) (hl : Bytes w A s) (hm : Bytes w B t) (hc : s.length ≤ c) (_hC : c ≤ 9223372036854775807) (hd : t.length ≤ d) :
    Calls Tryd.prog 6 #[.slice A s.length c, .slice B t.length d] w fun e w' => e = .returned (.bool true) ∧ Below w.heap.size w w' := by
  have HT := Lib.hid ht
  have HL := Lib.hid hl
  have HM := Lib.hid hm
  have hb9 := hl.1
  have hs9 := hm.1
  clear ht hl hm
  by_cases h1 : 1000 < s.length
  · go_enter Tryd.func6, Tryd.ntmps6
    go_wp2_with (go_at_call 9; refine (shown_any _ HT.out).mono ?_; rintro e w1 ⟨rfl, hb⟩)
    go_ret
    exact ⟨rfl, hb⟩
  by_cases h2 : 1000 < t.length
  · go_enter Tryd.func6, Tryd.ntmps6
    go_wp2_with (go_at_call 9; refine (shown_any _ HT.out).mono ?_; rintro e w1 ⟨rfl, hb⟩)
    go_ret
    exact ⟨rfl, hb⟩
  · obtain ⟨i0, hi0, hz0, hz1, hz2⟩ := info_parts byte_info
    obtain ⟨j0, hj0, hy0, hy1, hy2⟩ := info_parts slice_info
    obtain ⟨f1, f2, _⟩ := split_facts _ s (Nat.le_refl _) HL.out.2.1
    obtain ⟨g1, g2, _⟩ := split_facts _ t (Nat.le_refl _) HM.out.2.1
    have hjo := split_joins _ s t (Nat.le_refl _) HL.out.2.1
    have eL : Hid ((splitOf s).1 = (splitOf s).1) := rfl
    obtain ⟨L, hL⟩ : ∃ L, (splitOf s).1 = L := ⟨_, rfl⟩
    obtain ⟨M, hM⟩ : ∃ M, (splitOf t).1 = M := ⟨_, rfl⟩
    obtain ⟨u, hu⟩ : ∃ u, (splitOf s).2 = u := ⟨_, rfl⟩
    obtain ⟨m, hm⟩ : ∃ m, (splitOf t).2 = m := ⟨_, rfl⟩
    rw [hL, hM, hu, hm] at hjo
    rw [hu] at f1
    rw [hm] at g1
    rw [hL] at f2
    rw [hM] at g2
    have S1 := Lib.hid hL
    have S2 := Lib.hid hM
    have S3 := Lib.hid (show ((splitOf s).2 : Int) = (u : Int) from by rw [hu])
    have S4 := Lib.hid (show ((splitOf t).2 : Int) = (m : Int) from by rw [hm])
    have S5 := Lib.hid (show (splitOf (s.take u ++ t)).1 = L ++ M from by rw [hjo])
    have S6 := Lib.hid (show ((splitOf (s.take u ++ t)).2 : Int) = (u : Int) + (m : Int) from by rw [hjo]; push_cast; rfl)
    clear hL hM hu hm hjo eL
    have s5 : s.length ≤ 100000 := by omega
    have t5 : t.length ≤ 100000 := by omega
    have q1 := Lib.hid (show (s.take u).length = u from by rw [List.length_take]; omega)
    have q2 := Lib.hid (show u + t.length = (s.take u ++ t).length from by rw [List.length_append, q1.out])
    have q3 := Lib.hid (show (s.take u ++ t).length ≤ 100000 from by rw [← q2.out]; omega)
    have q9 := Lib.hid (show (s.take u ++ t).length ≤ 9223372036854775807 from by rw [← q2.out]; omega)
    have q4 := Lib.hid (show L.length + M.length = (L ++ M).length from by rw [List.length_append])
    have qb : Hid (∀ n ∈ s.take u ++ t, 0 ≤ n ∧ n < 256) := fun n hn => (List.mem_append.1 hn).elim (fun h => HL.out.2.1 n (List.mem_of_mem_take h)) (HM.out.2.1 n)
    have l1 := Lib.hid (show ((s.take u).map (Value.int .u8)).length = u * 1 from by rw [List.length_map, q1.out, Nat.mul_one])
    have l2 := Lib.hid (show (t.map (Value.int .u8)).length = t.length * 1 from by simp)
    have z1 := Lib.hid (show u = 0 + u from by omega)
    have m1 : 0 + u ≤ maxLen := by unfold maxLen; omega
    have k1 : (0 + u) * 1 ≤ 140737488355328 := by omega
    have m2 : u + t.length ≤ maxLen := by unfold maxLen; omega
    have k2 : (u + t.length) * 1 ≤ 140737488355328 := by omega
    have z3 := Lib.hid (show L.length = 0 + L.length from by omega)
    have m3 : 0 + L.length ≤ maxLen := by unfold maxLen; omega
    have k3 : (0 + L.length) * 24 ≤ 140737488355328 := by omega
    have m4 : L.length + M.length ≤ maxLen := by unfold maxLen; omega
    have k4 : (L.length + M.length) * 24 ≤ 140737488355328 := by omega
    have q8 := Lib.hid (show (L ++ M).length ≤ 9223372036854775807 from by rw [← q4.out]; omega)
    have hnu : (0 : Int) ≤ (u : Int) := by omega
    go_enter Tryd.func6, Tryd.ntmps6
    go_wp2_with (first
      | (go_at_call 9; ((with_reducible refine (shown_any _ HT.out).mono ?_); rintro e w1 ⟨rfl, hb1⟩; have HB1 := Lib.hid hb1; have HT1 := Lib.hid (HT.out.below hb1 HT.out.heap); have HL1 := Lib.hid (HL.out.below hb1 (Nat.le_refl _)); clear hb1))
      | (go_at_call 12; ((with_reducible refine (split_to A c s.length s rfl hc s5 L L.length (u : Int) S1.out rfl S3.out _ HT1.out HL1.out).mono ?_); rintro e w2 ⟨X, xd, rfl, hx, _, _, hb2⟩; have HB2 := Lib.hid (later HB1.out hb2); have HT2 := Lib.hid (HT.out.below HB2.out HT.out.heap); have HM2 := Lib.hid (HM.out.below HB2.out (Nat.le_refl _)); have HX2 := Lib.hid hx; clear hx hb2))
      | (go_at_call 12; ((with_reducible refine (split_to B d t.length t rfl hd t5 M M.length (m : Int) S2.out rfl S4.out _ HT2.out HM2.out).mono ?_); rintro e w3 ⟨Y, yd, rfl, hy, _, _, hb3⟩; have HB3 := Lib.hid (later HB2.out hb3); have HX3 := Lib.hid (HX2.out.below hb3 (Nat.le_refl _)); have HA3 := Lib.hid ((HB3.out.alloc HB3.out.size (.cells #[] 5))); have HA3' := Lib.hid ((Below.refl w3.heap.size w3).alloc (Nat.le_refl _) (.cells #[] 5)); have HS3 := Lib.hid (((HL.out.below HA3.out (Nat.le_refl _)).part0 u).sl); have HY3 := Lib.hid hy; clear hy hb3))
      | (at_builtin
         refine wpList_append_sl _ rfl (.tmp 41) (.tmp 44) 22 rfl w3.heap.size 5 i0 _ 1 1 Tryd.underlying22 hi0 hz0 hz1 hz2 rfl Nat.one_pos _ 0 [] rfl (World.ownsRow_made w3 #[] 0 (Nat.le_refl _) (Nat.zero_le _) rfl) A u c ((s.take u).map (Value.int .u8)) rfl l1.out HS3.out (ints_one _ _) m1 k1 HA3'.out.size u z1.out ?_
         intro A4 c4 w4 hown4 hb4 _ _
         have HO4 := Lib.hid hown4
         have HB4 := Lib.hid (HA3'.out.trans hb4)
         have HM4 := Lib.hid ((HM.out.below (later HB3.out HB4.out) (Nat.le_refl _)).sl)
         clear hown4 hb4)
      | (at_builtin
         refine wpList_append_sl _ rfl (.tmp 45) (.tmp 46) 22 rfl w3.heap.size 5 i0 _ 1 1 Tryd.underlying22 hi0 hz0 hz1 hz2 rfl Nat.one_pos _ u _ rfl HO4.out B t.length d (t.map (Value.int .u8)) rfl l2.out HM4.out (ints_one _ _) m2 k2 HB4.out.size (u + t.length) rfl ?_
         intro A5 c5 w5 hown5 hb5 _ _
         have HB5 := Lib.hid (HB4.out.trans hb5)
         have HB5' := Lib.hid (later HB3.out HB5.out)
         have HT5 := Lib.hid (HT.out.below HB5'.out HT.out.heap)
         have HS5 := Lib.hid (Bytes.of_sl (l := s.take u ++ t) (by rw [List.map_append]; exact own_sl hown5) q9.out qb.out)
         have HC5 := Lib.hid (show (s.take u ++ t).length ≤ c5 from by rw [← q2.out]; exact (own_cap hown5).1)
         clear hown5 hb5)
      | (go_at_call 12; ((with_reducible refine (split_to A5 c5 (u + t.length) (s.take u ++ t) q2.out HC5.out q3.out (L ++ M) (L.length + M.length) ((u : Int) + (m : Int)) S5.out q4.out S6.out _ HT5.out HS5.out).mono ?_); rintro e w6 ⟨Z, zd, rfl, hz, _, _, hb6⟩; have HB6 := Lib.hid (later HB5'.out hb6); have HB36 := Lib.hid (later HB5.out hb6); obtain ⟨us, us1, us2, us3, us4⟩ := (HX3.out.below HB36.out (Nat.le_refl _)).sl; obtain ⟨vs, vs1, vs2, vs3, vs4⟩ := (HY3.out.below HB36.out (Nat.le_refl _)).sl; have HA6 := Lib.hid ((Below.refl w6.heap.size w6).alloc (Nat.le_refl _) (.cells #[] 22)); have U1 := Lib.hid us1; have U2 := Lib.hid (us2.below HA6.out (Nat.le_refl _)); have U3 := Lib.hid us3; have U4 := Lib.hid us4; have V1 := Lib.hid vs1; have V2 := Lib.hid vs2; have V3 := Lib.hid vs3; have V4 := Lib.hid vs4; have HZ6 := Lib.hid hz; clear hz hb6 us1 us2 us3 us4 vs1 vs2 vs3 vs4; have U1' := Lib.hid (show us.length = L.length * 1 from by rw [U1.out, Nat.mul_one]); have V1' := Lib.hid (show vs.length = M.length * 1 from by rw [V1.out, Nat.mul_one])))
      | (at_builtin
         refine wpList_append_sl _ rfl (.tmp 61) (.tmp 62) 29 rfl w6.heap.size 22 j0 _ 1 24 Tryd.underlying29 hj0 hy0 hy1 hy2 rfl Nat.one_pos _ 0 [] rfl (World.ownsRow_made w6 #[] 0 (Nat.le_refl _) (Nat.zero_le _) rfl) X L.length xd us rfl U1'.out U2.out U3.out m3 k3 HA6.out.size L.length z3.out ?_
         intro A7 c7 w7 hown7 hb7 _ _
         have HO7 := Lib.hid hown7
         have HB7 := Lib.hid (HA6.out.trans hb7)
         have V2' := Lib.hid (V2.out.below HB7.out (Nat.le_refl _))
         clear hown7 hb7)
      | (at_builtin
         refine wpList_append_sl _ rfl (.tmp 63) (.tmp 64) 29 rfl w6.heap.size 22 j0 _ 1 24 Tryd.underlying29 hj0 hy0 hy1 hy2 rfl Nat.one_pos _ L.length _ rfl HO7.out Y M.length yd vs rfl V1'.out V2'.out V3.out m4 k4 HB7.out.size (L.length + M.length) rfl ?_
         intro A8 c8 w8 hown8 hb8 _ _
         have HB8 := Lib.hid (HB7.out.trans hb8)
         have HZ8 := Lib.hid (HZ6.out.below HB8.out (Nat.le_refl _))
         have HR8 := Lib.hid (Rws.of_row hown8 q4.out q8.out (held_append U1.out (fun i hi => (U4.out i hi).imp fun Ai h => h.imp fun ci h => ⟨h.1, h.2.1, h.2.2.1, h.2.2.2.below HB8.out (Nat.le_refl _)⟩) (fun i hi => (V4.out i hi).imp fun Ai h => h.imp fun ci h => ⟨h.1, h.2.1, h.2.2.1, h.2.2.2.below HB8.out (Nat.le_refl _)⟩)))
         have HB8' := Lib.hid (later HB6.out HB8.out)
         clear hown8 hb8)
      | (go_at_call 14; ((with_reducible refine (rows_same Z A8 zd c8 _ _ (L ++ M) (L ++ M) q4.out q4.out rfl _ HZ8.out HR8.out).mono ?_); rintro e w9 ⟨rfl, hb9'⟩; have HB9 := Lib.hid (later HB8'.out hb9'); clear hb9')))
    go_ret
    exact ⟨rfl, HB9.out⟩
end Go.Proofs.YtlbaedgmbdljpaaDoor
