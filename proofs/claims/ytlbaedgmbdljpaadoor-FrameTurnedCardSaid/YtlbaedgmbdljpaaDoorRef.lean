/- wealdref04.Split: what it hands back. -/
import Derived.Test.YtlbaedgmbdljpaaDoorRowsEq
namespace Go.Proofs.YtlbaedgmbdljpaaDoor
open Go.RowKit Aid

theorem row_below {B : Nat} {w w' : World} {base : Nat} {e : TypeId} {v : Value} {n : Nat} {xs : List Value} (h : w.ownsRow base e 1 v n xs) (hb : Below B w w') (hB : w.heap.size ≤ B) : w'.ownsRow base e 1 v n xs := by
  obtain ⟨h1, h2⟩ := h
  refine ⟨h1, ?_⟩
  rcases h2 with h2 | ⟨g, cap, cur, hv, hg, h3, h4⟩
  · exact .inl h2
  · exact .inr ⟨g, cap, cur, hv, hg, (hb.block g (Nat.lt_of_lt_of_le (Array.getElem?_eq_some_iff.1 h3).1 hB)).trans h3, h4⟩
theorem frame_at (b : List Int) (t : Nat) (h1 : 2 ≤ t) (h2 : t < 6) : (frame b).getD t 0 = (bytesOf (N (sum b)) 4).getD (t - 2) 0 := by
  have e : ∀ v : Int, bytesOf v 4 = [v % 256, v / 256 % 256, v / 65536 % 256, v / 16777216 % 256] := fun v => by simp [bytesOf, List.range_succ]
  have e' : ∀ v : Int, bytesOf v 2 = [v % 256, v / 256 % 256] := fun v => by simp [bytesOf, List.range_succ]
  unfold frame heads
  rw [e, e']
  have : t = 2 ∨ t = 3 ∨ t = 4 ∨ t = 5 := by omega
  rcases this with rfl | rfl | rfl | rfl <;> rfl
/-- The first j bytes of the sum are as the text has them. -/
def Same (b s : List Int) (k j : Nat) : Prop := ∀ t, 2 ≤ t → t < j → (frame b).getD t 0 = s.getD (k + t) 0
theorem same_all {b s : List Int} {k : Nat} (hk : k + 6 ≤ s.length) (hb : ∀ n ∈ s, 0 ≤ n ∧ n < 256) : Same b s k 6 ↔ N (sum b) = num ((s.drop (k + 2)).take 4) := by
  have hl : ((s.drop (k + 2)).take 4).length = 4 := by rw [List.length_take, List.length_drop]; omega
  have hbb : ∀ n ∈ (s.drop (k + 2)).take 4, 0 ≤ n ∧ n < 256 := fun n hn => hb n (List.mem_of_mem_drop (List.mem_of_mem_take hn))
  have hget : ∀ t, t < 4 → ((s.drop (k + 2)).take 4).getD t 0 = s.getD (k + (t + 2)) 0 := fun t ht => by
    rw [List.getD_eq_getElem?_getD, List.getD_eq_getElem?_getD, List.getElem?_take_of_lt ht, List.getElem?_drop]
    congr 2; omega
  constructor
  · intro h
    have : bytesOf (N (sum b)) 4 = (s.drop (k + 2)).take 4 := by
      refine List.ext_getElem? fun i => ?_
      have hl' : (bytesOf (N (sum b)) 4).length = 4 := by simp [bytesOf]
      by_cases hi : i < 4
      · have h1 := h (i + 2) (by omega) (by omega)
        rw [frame_at b (i + 2) (by omega) (by omega), Nat.add_sub_cancel, ← hget i hi] at h1
        rw [List.getD_eq_getElem?_getD, List.getD_eq_getElem?_getD, List.getElem?_eq_getElem (by omega), List.getElem?_eq_getElem (by omega)] at h1
        rw [List.getElem?_eq_getElem (by omega), List.getElem?_eq_getElem (by omega)]
        simpa using h1
      · rw [List.getElem?_eq_none (by omega), List.getElem?_eq_none (by omega)]
    rw [← this, num_bytes4 _ (N_nonneg _) (N_lt _)]
  · intro h t h1 h2
    rw [frame_at b t h1 h2, h, bytes4_num _ hl hbb, hget (t - 2) (by omega)]
    congr 1; omega
theorem same_next {b s : List Int} {k j : Nat} (hj : 2 ≤ j) (h : Same b s k j) : Same b s k (j + 1) ↔ (frame b).getD j 0 = s.getD (k + j) 0 :=
  ⟨fun g => g j hj (by omega), fun g t h1 h2 => by
    rcases Nat.lt_or_ge t j with h' | h'
    · exact h t h1 h'
    · obtain rfl : t = j := by omega
      exact g⟩
theorem num_two {s : List Int} {k : Nat} (hk : k + 2 ≤ s.length) : num ((s.drop k).take 2) = s.getD k 0 + 256 * s.getD (k + 1) 0 := by
  rw [List.drop_eq_getElem_cons (by omega), List.drop_eq_getElem_cons (by omega)]
  simp only [List.take_succ_cons, List.take_zero]
  rw [num_cons, num_cons, num_nil, List.getD_eq_getElem?_getD, List.getD_eq_getElem?_getD, List.getElem?_eq_getElem (by omega), List.getElem?_eq_getElem (by omega)]
  simp

theorem refPut_at (A : Option Addr) (c n : Nat) (l : List Int) (hn : n = l.length) (w : World) (hl : Bytes w A l) (h0 : 0 < l.length) (h1 : l.length ≤ 65535) :
    Calls Tryd.prog 11 #[.slice A n c] w fun e w' => ∃ g d, e = .returned (.tuple #[.slice (some ⟨g, 0, none⟩) (n + 6) d, .int .i64 0]) ∧ (∀ t, t < n + 6 → w'.cell? ⟨g, t, none⟩ = some (.int .u8 ((frame l).getD t 0))) ∧ Below w.heap.size w w' := by
  subst hn
  refine (refPut_yes w.heap.size A c l w (Nat.le_refl _) hl (Nat.le_refl _) h0 h1).mono ?_
  rintro e w' ⟨B, d, rfl, ho, hb⟩
  rcases own_form ho with ⟨_, h, _⟩ | ⟨g, cap, hv, _, _, _, _, hc, _⟩
  · omega
  · injection hv with hA
    subst hA
    refine ⟨g, d, rfl, fun t ht => ?_, hb⟩
    have hlt : t < (frame l).length := by rw [frame_length]; exact ht
    have := hc t (.int .u8 ((frame l).getD t 0)) (by rw [List.getElem?_map, List.getElem?_eq_getElem hlt, List.getD_eq_getElem?_getD, List.getElem?_eq_getElem hlt]; rfl)
    simpa only [Nat.zero_add] using this
theorem own_addr {w : World} {base : Nat} {e : TypeId} {A : Option Addr} {n c : Nat} {xs : List Value} (h : w.ownsRow base e 1 (.slice A n c) n xs) (hn : 0 < n) : ∃ g, A = some ⟨g, 0, none⟩ := by
  rcases own_form h with ⟨_, h, _⟩ | ⟨g, cap, hv, _⟩
  · omega
  · injection hv with hA
    exact ⟨g, hA⟩

set_option maxRecDepth 100000 in
set_option maxHeartbeats 4000000 in
theorem refSplit_any (A : Option Addr) (cap n : Nat) (s : List Int) (w : World) (hn : n = s.length) (hcap : s.length ≤ cap) (hs : s.length ≤ 100000) (hl : Bytes w A s) :
    Calls Tryd.prog 13 #[.slice A n cap] w fun e w' => ∃ v, e = .returned (.tuple #[v, .int .i64 ((splitOf s).2 : Int)]) ∧ Own2 w.heap.size w' v (splitOf s).1 ∧ Below w.heap.size w w' := by
  subst hn
  have HL := Lib.hid hl
  clear hl
  obtain ⟨i0, hi0, hz0, hz1, hz2⟩ := info_parts slice_info
  obtain ⟨j0, hj0, hy0, hy1, hy2⟩ := info_parts byte_info
  go_enter Tryd.func13, Tryd.ntmps13
  go_wp2
  go_loopw [4, 5] (fun v p wr => ∃ (k : Nat) (pre : List (Value × List Int)), p = .int .i64 k ∧ Upto s (pre.map Prod.snd) k ∧ wr.ownsRow w.heap.size 22 1 v pre.length (pre.map Prod.fst) ∧ (∀ p ∈ pre, wr.ownsRow w.heap.size 5 1 p.1 p.2.length (p.2.map (Value.int .u8)) ∧ 0 < p.2.length) ∧ Below w.heap.size w wr) (fun _ p _ => s.length - (intOf p).toNat)
  case atStart => exact ⟨0, [], rfl, Upto.start s, World.ownsRow_nil _ _ _ _, fun p hp => (by cases hp), Below.refl _ _⟩
  case round =>
    obtain ⟨k, pre, rfl, hu, ho, hc, hb⟩ := hrel
    have hks := hu.1
    have HU := Lib.hid hu
    have HO := Lib.hid ho
    have HC := Lib.hid hc
    have HB := Lib.hid hb
    have HE : Hid (∀ W : World, Below wr.heap.size wr W → Own2 w.heap.size W u4 (pre.map Prod.snd) ∧ Below w.heap.size w W) := fun W hW =>
      ⟨⟨pre, rfl, row_below ho hW (Nat.le_refl _), fun p hp => ⟨row_below (hc p hp).1 hW (Nat.le_refl _), (hc p hp).2⟩⟩, hb.trans (hW.mono hb.size)⟩
    have HEnd : Hid (∀ W : World, Below wr.heap.size wr W → ¬ Fits (s.drop k) → ∃ v, Ending.returned (.tuple #[u4, .int .i64 (k : Int)]) = Ending.returned (.tuple #[v, .int .i64 ((splitOf s).2 : Int)]) ∧ Own2 w.heap.size W v (splitOf s).1 ∧ Below w.heap.size w W) := fun W hW hf => by
      have := HE.out W hW
      rw [hu.stop hf]
      exact ⟨u4, rfl, this⟩
    clear hu ho hc hb
    by_cases h6 : k + 6 ≤ s.length
    · have HB' := Lib.hid (HL.out.below HB.out (Nat.le_refl _))
      obtain ⟨b, off, hA, hcs⟩ := HB'.out.2.2 (by omega)
      subst hA
      obtain ⟨n, hn, hn65, hsz⟩ := size2_is s k (by omega) HL.out.2.1
      have HZ := Lib.hid hsz
      have c1 := hcs k (by omega)
      have c2 := hcs (k + 1) (by omega)
      rw [num_two (by omega)] at hn
      have m1 := HL.out.2.1 (s.getD k 0) (getD_mem (by omega))
      have m2 := HL.out.2.1 (s.getD (k + 1) 0) (getD_mem (by omega))
      generalize s.getD k 0 = y1 at c1 hn m1
      generalize s.getD (k + 1) 0 = y2 at c2 hn m2
      clear hsz hcs
      have q1 : (k : Int) < (s.length : Int) := by omega
      have q2 : (k : Int) + 1 < (s.length : Int) := by omega
      have q3 : (0 : Int) ≤ (k : Int) + 1 := by omega
      have q4 : ((k : Int) + 1).toNat = k + 1 := by omega
      have r1 : IntKind.i64.wrap ((k : Int) + 1) = (k : Int) + 1 := by rw [IntKind.wrap_i64]; omega
      have r2 : IntKind.i64.wrap y1 = y1 := by rw [IntKind.wrap_i64]; omega
      have r3 : IntKind.i64.wrap y2 = y2 := by rw [IntKind.wrap_i64]; omega
      have r4 : IntKind.i64.wrap (256 * y2) = 256 * y2 := by rw [IntKind.wrap_i64]; omega
      have r5 : IntKind.i64.wrap (n : Int) = (n : Int) := by rw [IntKind.wrap_i64]; omega
      go_wp2
      go_quiet (fail)
      clear q1 q2 q3 q4 r1 r2 r3 r4 r5 m1 m2 c1 c2 hn
      by_cases hn1 : n = 0
      · subst hn1
        go_wp2
        go_ret2
        exact HEnd.out _ (below_drewN (Below.refl _ _) nq) (fun f => by have := f.2.1; rw [HZ.out] at this; omega)
      by_cases hn2 : s.length < k + 6 + n
      · go_wp2
        go_ret2
        exact HEnd.out _ (below_drewN (Below.refl _ _) nq) (fun f => by have := f.2.2.1; rw [HZ.out, List.length_drop] at this; omega)
      · have HBY : Hid (Bytes (wr.drewN nq) (some ⟨b, off + (k + 6), none⟩) (body (s.drop k))) := by
          have := HB'.out.part (k + 6) n
          unfold body; rw [HZ.out, List.drop_drop]; exact this
        have E1 := Lib.hid (show n = (body (s.drop k)).length from by unfold body; rw [HZ.out, List.length_take, List.length_drop, List.length_drop]; omega)
        have HBL := Lib.hid (below_drewN (Below.refl wr.heap.size wr) nq)
        have hbs : Hid ((wr.drewN nq).heap.size = wr.heap.size) := rfl
        generalize wr.drewN nq = W1 at HBY HBL hbs ⊢
        have gg1 : ((n : Int) == 0) = false := by simp; omega
        have gg2 : decide ((s.length : Int) < (k : Int) + 6 + (n : Int)) = false := by simp; omega
        have hl1 := Lib.hid (show ((body (s.drop k)).map (Value.int .u8)).length = (k + 6 + n - (k + 6)) * 1 from by rw [List.length_map, ← E1.out]; omega)
        have hz1' := Lib.hid (show n = 0 + (k + 6 + n - (k + 6)) from by omega)
        have hl2 : 0 + (k + 6 + n - (k + 6)) ≤ maxLen := by unfold maxLen; omega
        have hl3 : (0 + (k + 6 + n - (k + 6))) * 1 ≤ 140737488355328 := by omega
        have hs1 := Lib.hid (show W1.heap.size ≤ (W1.alloc (.cells #[] 5)).heap.size from by rw [World.size_alloc]; omega)
        have hpos := Lib.hid (show 0 < (body (s.drop k)).length from by have := E1.out; omega)
        have hpos' := Lib.hid (show (body (s.drop k)).length ≤ 65535 from by have := E1.out; omega)
        have hnpos := Lib.hid (show 0 < n from by omega)
        have hlen9 := Lib.hid (show (body (s.drop k)).length ≤ 9223372036854775807 from by have := E1.out; omega)
        have hmem : Hid (∀ x ∈ body (s.drop k), 0 ≤ x ∧ x < 256) := HBY.out.2.1
        go_wp2_with (first
          | (at_builtin
             refine wpList_append_sl _ rfl (.tmp 42) (.tmp 50) 22 rfl W1.heap.size 5 j0 _ 1 1 Tryd.underlying22 hj0 hy0 hy1 hy2 rfl Nat.one_pos _ 0 [] rfl (World.ownsRow_made W1 #[] 0 (Nat.le_refl _) (Nat.zero_le _) rfl) (some ⟨b, off + (k + 6), none⟩) (k + 6 + n - (k + 6)) _ ((body (s.drop k)).map (Value.int .u8)) rfl hl1.out (HBY.out.sl.below ((Below.refl _ _).alloc (Nat.le_refl _) _) (Nat.le_refl _)) (ints_one _ _) hl2 hl3 hs1.out n hz1'.out ?_
             intro A2 c2 w2 hown2 hb2 _ _
             obtain ⟨g2, rfl⟩ := own_addr hown2 hnpos.out
             have HO2 := Lib.hid hown2
             have HB2 := Lib.hid (((Below.refl W1.heap.size W1).alloc (Nat.le_refl _) _).trans hb2)
             have HY2 := Lib.hid (Bytes.of_sl (l := body (s.drop k)) (own_sl hown2) hlen9.out hmem.out)
             clear hown2 hb2)
          | (go_at_call 11; ((with_reducible refine (refPut_at _ _ n (body (s.drop k)) E1.out _ HY2.out hpos.out hpos'.out).mono ?_); rintro e w3 ⟨g3, d3, rfl, hc3, hb3⟩; have HC3 := Lib.hid hc3; have HB3 := Lib.hid hb3; clear hc3 hb3)))
        have HB03 : Hid (Below wr.heap.size wr w3) := by
          have h2 := HB2.out
          rw [hbs.out] at h2
          have h3 : Below wr.heap.size w2 w3 := HB3.out.mono (by have := h2.size; rw [hbs.out] at this; exact this)
          exact HBL.out.trans (h2.trans h3)
        have HBS := Lib.hid (HB'.out.below HB03.out (Nat.le_refl _))
        have HRB : Hid (w3.ownsRow wr.heap.size 5 1 (.slice (some ⟨g2, 0, none⟩) n c2) n ((body (s.drop k)).map (Value.int .u8))) := by
          have := row_below HO2.out HB3.out (Nat.le_refl _)
          rw [hbs.out] at this
          exact this
        clear gg1 gg2 hl2 hl3
        go_loopw [10] (fun i wq => ∃ j q, 2 ≤ j ∧ j ≤ 6 ∧ i = .int .i64 (j : Nat) ∧ Same (body (s.drop k)) s k j ∧ wq = w3.drewN q) (fun i _ => 6 - (intOf i).toNat)
        case atStart => exact ⟨2, 0, Nat.le_refl _, by omega, rfl, fun t h1 h2 => (by omega), rfl⟩
        case round =>
          obtain ⟨j, q, hj2, hj6, rfl, hsame, hwq⟩ := hrel
          have HSM := Lib.hid hsame
          have HWQ := Lib.hid hwq
          by_cases hlt : j < 6
          · have f1 : wr.cell? ⟨g3, j, none⟩ = some (.int .u8 ((frame (body (s.drop k))).getD j 0)) := by rw [hwq]; exact HC3.out j (by omega)
            have f2 : wr.cell? ⟨b, off + (k + j), none⟩ = some (.int .u8 (s.getD (k + j) 0)) := by
              obtain ⟨b', off', hA', hcs⟩ := HBS.out.2.2 (by omega)
              obtain ⟨rfl, rfl⟩ : b = b' ∧ off = off' := by simpa using hA'
              rw [hwq]; exact hcs (k + j) (by omega)
            have HSN := Lib.hid (same_next hj2 hsame)
            clear hwq hsame
            generalize (frame (body (s.drop k))).getD j 0 = x at f1 HSN
            generalize s.getD (k + j) 0 = y at f2 HSN
            have i1 : (j : Int) < (n : Int) + 6 := by omega
            have i2 : (k : Int) + (j : Int) < (s.length : Int) := by omega
            have i3 : (0 : Int) ≤ (k : Int) + (j : Int) := by omega
            have i4 : ((k : Int) + (j : Int)).toNat = k + j := by omega
            have i5 : IntKind.i64.wrap ((k : Int) + (j : Int)) = (k : Int) + (j : Int) := by rw [IntKind.wrap_i64]; omega
            go_wp2
            go_quiet (fail)
            clear i1 i2 i3 i4 i5 f1 f2
            cases hX : (x != y)
            · have HX := Lib.hid (show x = y from by simpa using hX)
              clear hX
              go_wp2
              go_roundw
              case rel => exact ⟨j + 1, q + nq, by omega, by omega, by go_num, HSN.out.2 HX.out, by rw [HWQ.out, World.drewN_drewN]⟩
              case measure => simp [intOf]; omega
            · have HX := Lib.hid (show x ≠ y from by simpa using hX)
              clear hX
              go_wp2
              go_ret2
              refine HEnd.out _ (by rw [HWQ.out]; exact below_drewN (below_drewN HB03.out q) nq) (fun f => HX.out (HSN.out.1 ?_))
              have h4 := f.2.2.2
              rw [List.drop_drop] at h4
              have := (same_all h6 HL.out.2.1).2 h4
              exact fun t h1 h2 => this t h1 (by omega)
          · obtain rfl : j = 6 := by omega
            have HF : Hid (Fits (s.drop k)) := ⟨by rw [List.length_drop]; omega, by rw [HZ.out]; omega, by rw [HZ.out, List.length_drop]; omega, by rw [List.drop_drop]; exact (same_all h6 HL.out.2.1).1 HSM.out⟩
            have HBq : Hid (Below w.heap.size w wr) := by rw [hwq]; exact HB.out.trans ((below_drewN HB03.out q).mono HB.out.size)
            have HOq : Hid (wr.ownsRow w.heap.size 22 1 u4 pre.length (pre.map Prod.fst)) := by rw [hwq]; exact row_below HO.out (below_drewN HB03.out q) (Nat.le_refl _)
            have HCq : Hid (∀ p ∈ pre, wr.ownsRow w.heap.size 5 1 p.1 p.2.length (p.2.map (Value.int .u8)) ∧ 0 < p.2.length) := fun p hp => ⟨by rw [hwq]; exact row_below (HC.out p hp).1 (below_drewN HB03.out q) (Nat.le_refl _), (HC.out p hp).2⟩
            have HNq : Hid (wr.ownsRow w.heap.size 5 1 (.slice (some ⟨g2, 0, none⟩) n c2) n ((body (s.drop k)).map (Value.int .u8))) := by rw [hwq]; exact row_mono HRB.out HB.out.size
            have hlen := Lib.hid (show 7 * pre.length ≤ k from by have := HU.out.2.1; rwa [List.length_map] at this)
            have hl4 : pre.length + 1 ≤ maxLen := by unfold maxLen; have := hlen.out; omega
            have hl5 : (pre.length + 1) * 24 ≤ 140737488355328 := by have := hlen.out; omega
            have hone := Lib.hid (show ∀ y ∈ [Value.slice (some ⟨g2, 0, none⟩) n c2], y.oneCell' = true from fun y hy => by rw [List.mem_singleton.1 hy]; rfl)
            have hs4 := Lib.hid (show w.heap.size ≤ (wr.alloc (.cells #[Value.slice (some ⟨g2, 0, none⟩) n c2] 22)).heap.size from by rw [World.size_alloc]; have := HBq.out.size; omega)
            clear hwq hsame
            go_wp2_with (first
              | (at_builtin
                 refine wpList_append_sl _ rfl (.tmp 74) (.tmp 76) 29 rfl w.heap.size 22 i0 _ 1 24 Tryd.underlying29 hi0 hz0 hz1 hz2 rfl Nat.one_pos _ pre.length (pre.map Prod.fst) rfl (HOq.out.alloc _) (some ⟨wr.heap.size, 0, none⟩) 1 1 [Value.slice (some ⟨g2, 0, none⟩) n c2] rfl rfl (one_sl _ _ 22) hone.out hl4 hl5 hs4.out (pre.length + 1) rfl ?_
                 intro A5 c5 w5 hown5 hb5 hg5 _
                 have HO5 := Lib.hid hown5
                 have HB5 := Lib.hid ((HBq.out.alloc HBq.out.size _).trans hb5)
                 have HC5 : Hid (∀ p : Value × List Int, wr.ownsRow w.heap.size 5 1 p.1 p.2.length (p.2.map (Value.int .u8)) → w5.ownsRow w.heap.size 5 1 p.1 p.2.length (p.2.map (Value.int .u8))) := fun p hp => (hp.alloc _).kept hg5 (rows_apart hp HOq.out (Nat.ne_of_lt (Nat.le_of_ble_eq_true rfl)))
                 clear hown5 hb5 hg5))
            go_roundw
            case rel =>
              have hU := HU.out.go HF.out
              rw [HZ.out] at hU
              refine ⟨k + 6 + n, pre ++ [(.slice (some ⟨g2, 0, none⟩) n c2, body (s.drop k))], by go_num, by simpa using hU, by simpa using HO5.out, fun p hp => ?_, HB5.out⟩
              rcases List.mem_append.1 hp with h | h
              · exact ⟨HC5.out p (HCq.out p h).1, (HCq.out p h).2⟩
              · obtain rfl := List.mem_singleton.1 h
                refine ⟨HC5.out (.slice (some ⟨g2, 0, none⟩) n c2, body (s.drop k)) ?_, hpos.out⟩
                have := HNq.out
                show wr.ownsRow w.heap.size 5 1 (.slice (some ⟨g2, 0, none⟩) n c2) (body (s.drop k)).length _
                rw [← E1.out]; exact this
            case measure => simp [intOf]; omega
    · go_wp2
      go_ret2
      exact HEnd.out _ (Below.refl _ _) (fun f => by have := f.1; rw [List.length_drop] at this; omega)
end Go.Proofs.YtlbaedgmbdljpaaDoor
