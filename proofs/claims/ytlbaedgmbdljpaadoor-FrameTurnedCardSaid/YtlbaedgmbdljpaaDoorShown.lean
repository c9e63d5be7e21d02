/- The document's example, at the head of every statement: it answers true. -/
import Derived.Test.YtlbaedgmbdljpaaDoorRef
import Derived.Deep.RegionLaw
import Derived.Lib.SlBytesConst
namespace Go.Proofs.YtlbaedgmbdljpaaDoor
open Go.RowKit Aid

theorem put_at (A : Option Addr) (c n : Nat) (l : List Int) (hn : n = l.length) (w : World) (ht : Tab w) (hl : Bytes w A l) (h0 : 0 < l.length) (h1 : l.length ≤ 65535) :
    Calls Tryd.prog 10 #[.slice A n c] w fun e w' => ∃ g d, e = .returned (.tuple #[.slice (some ⟨g, 0, none⟩) (n + 6) d, .int .i64 0]) ∧ n + 6 ≤ d ∧ d ≤ maxLen ∧ w'.ownsRow w.heap.size 5 1 (.slice (some ⟨g, 0, none⟩) (n + 6) d) (n + 6) ((frame l).map (Value.int .u8)) ∧ Below w.heap.size w w' := by
  subst hn
  refine (put_yes w.heap.size A c l w (Nat.le_refl _) ht.heap ht hl (Nat.le_refl _) h0 h1).mono ?_
  rintro e w' ⟨B, d, rfl, ho, hb⟩
  rcases own_form ho with ⟨_, h, _⟩ | ⟨g, cap, hv, _, _, h3, h4, _⟩
  · omega
  · injection hv with hA _ hd
    subst hA; subst hd
    exact ⟨g, _, rfl, h3, h4, ho, hb⟩
set_option maxRecDepth 100000 in
theorem frame_a : frame [97] = [1, 0, 67, 190, 183, 232, 97] := by
  have h : N (sum [97]) = 3904355907 := by unfold N; decide
  unfold frame heads
  rw [h]; decide
theorem fits_frame (b rest : List Int) (h0 : 0 < b.length) (h1 : b.length ≤ 65535) : size2 (frame b ++ rest) = b.length ∧ body (frame b ++ rest) = b ∧ Fits (frame b ++ rest) ∧ (frame b ++ rest).drop (6 + b.length) = rest := by
  have hh : (heads b).length = 6 := heads_length b
  have h2 : (bytesOf (b.length : Int) 2).length = 2 := by simp [bytesOf]
  have h4 : (bytesOf (N (sum b)) 4).length = 4 := by simp [bytesOf]
  have e1 : (frame b ++ rest).take 2 = bytesOf (b.length : Int) 2 := by
    unfold frame heads
    rw [List.append_assoc, List.append_assoc, List.take_left' h2]
  have es : size2 (frame b ++ rest) = b.length := by unfold size2; rw [e1, num_bytes2 _ (by omega) (by omega)]; omega
  have e6 : (frame b ++ rest).drop 6 = b ++ rest := by unfold frame; rw [List.append_assoc, List.drop_left' hh]
  have eb : body (frame b ++ rest) = b := by unfold body; rw [es, e6, List.take_left' rfl]
  have e4 : ((frame b ++ rest).drop 2).take 4 = bytesOf (N (sum b)) 4 := by
    unfold frame heads
    rw [List.append_assoc, List.append_assoc, List.drop_left' h2, List.take_left' h4]
  refine ⟨es, eb, ⟨by rw [List.length_append, frame_length]; omega, by rw [es]; omega, by rw [es, List.length_append, frame_length]; omega, by rw [eb, e4, num_bytes4 _ (N_nonneg _) (N_lt _)]⟩, ?_⟩
  rw [← List.drop_drop, e6, List.drop_left' rfl]
theorem splitOf_frame (b rest : List Int) (h0 : 0 < b.length) (h1 : b.length ≤ 65535) : splitOf (frame b ++ rest) = (b :: (splitOf rest).1, 6 + b.length + (splitOf rest).2) := by
  obtain ⟨e1, e2, e3, e4⟩ := fits_frame b rest h0 h1
  rw [splitOf_go e3, e1, e2, e4]
theorem splitOf_short (s : List Int) (h : s.length < 7) : splitOf s = ([], 0) := splitOf_stop fun f => by have := f.2.1; have := f.2.2.1; omega
theorem split_shown : splitOf (frame [97] ++ (frame [97]).take 6) = ([[97]], 7) := by
  rw [splitOf_frame _ _ (by decide) (by decide), splitOf_short _ (by rw [List.length_take]; omega)]
  rfl

section
variable {P : Program} (w : World)
theorem step_append_sl {ops : Array Oper} {o : Oper} {a : Act} {K : Act → World → Prop} {Q : Exit → Act → World → Prop} {E : Prop} (hgd : o.guard = none) (s x : Operand) (t : TypeId)
    (ho : o.op = .call { callee := .builtin .append, args := #[s, x], argTypes := #[t, t] })
    (base : Nat) (e : TypeId) (i : TypeInfo) (z : Value) (size bytes : Nat) (ht : P.underlying t = some (.slice e)) (hi : P.info? e = some i) (hz : i.zero = some z)
    (hsize : i.size = size) (hby : i.bytes = bytes) (hzs : z.cells.size = size) (hsz : 0 < size)
    (v : Value) (n : Nat) (xs : List Value) (hs : a.eval s = v) (hown : w.ownsRow base e size v n xs)
    (A : Option Addr) (m c : Nat) (news : List Value) (hx : a.eval x = .slice A m c) (hl : news.length = m * size) (hr : Sl w A news) (h1 : ∀ u ∈ news, u.oneCell' = true)
    (h63 : n + m ≤ maxLen) (hbytes : (n + m) * bytes ≤ 140737488355328) (hbase : base ≤ w.heap.size)
    (r : Nat) (hrr : r = n + m)
    (h : ∀ A' c' w', w'.ownsRow base e size (.slice A' r c') r (xs ++ news) → Below base w w' → w.grownBy w' v.ownBlock → ((Value.slice A' r c').ownBlock = v.ownBlock ∨ (Value.slice A' r c').ownBlock = some w.heap.size) → K (a.put o.dst (.slice A' r c')) w') :
    if Region.wanted o (yielded ops a.tmps) = true then Oper.wp P o a w K Q else E := by
  have hw : Region.wanted o (yielded ops a.tmps) = true := by simp [Region.wanted, hgd]
  rw [if_pos hw]
  exact wp_append_sl w s x t ho base e i z size bytes ht hi hz hsize hby hzs hsz v n xs hs hown A m c news hx hl hr h1 h63 hbytes hbase r hrr h
end
theorem own_cap {w : World} {base : Nat} {e : TypeId} {A : Option Addr} {n c : Nat} {xs : List Value} (h : w.ownsRow base e 1 (.slice A n c) n xs) : n ≤ c ∧ c ≤ maxLen := by
  rcases own_form h with ⟨hv, h, _⟩ | ⟨g, cap, hv, _, _, h3, h4, _⟩
  · subst h; injection hv with _ _ hc; subst hc; exact ⟨Nat.le_refl _, by simp [maxLen]⟩
  · injection hv with _ _ hc
    subst hc; exact ⟨h3, h4⟩
theorem Rws.of_own {base : Nat} {W : World} {v : Value} {L : List (List Int)} (h : Own2 base W v L) (hb : ∀ l ∈ L, l.length ≤ 9223372036854775807 ∧ ∀ n ∈ l, 0 ≤ n ∧ n < 256) : ∃ A c, v = .slice A L.length c ∧ L.length ≤ c ∧ c ≤ 9223372036854775807 ∧ Rws W A L := by
  obtain ⟨ps, rfl, h1, h2⟩ := h
  have hl : (ps.map Prod.snd).length = ps.length := by simp
  have hm : maxLen = 9223372036854775807 := rfl
  rcases own_form h1 with ⟨hv, h0, _⟩ | ⟨g, cap, hv, _, _, h3, h4, hc, _⟩
  · refine ⟨none, 0, by rw [hl, h0]; exact hv, by omega, by omega, by omega, fun hp => by omega⟩
  · refine ⟨some ⟨g, 0, none⟩, cap, by rw [hl]; exact hv, by omega, by omega, by omega, fun _ => ⟨g, 0, rfl, fun i hi => ?_⟩⟩
    have hi' : i < ps.length := by omega
    have hp := h2 ps[i] (List.getElem_mem hi')
    have hg : (ps.map Prod.snd).getD i [] = (ps[i]).2 := by
      rw [List.getD_eq_getElem?_getD, List.getElem?_map, List.getElem?_eq_getElem hi']; rfl
    have hcell := hc i (ps[i]).1 (by rw [List.getElem?_map, List.getElem?_eq_getElem hi']; rfl)
    have hbl := hb (ps[i]).2 (List.mem_map.2 ⟨_, List.getElem_mem hi', rfl⟩)
    rw [hg]
    rcases own_form hp.1 with ⟨_, h0, _⟩ | ⟨g', cap', hv', _, _, h3', h4', _⟩
    · have := hp.2; omega
    · refine ⟨some ⟨g', 0, none⟩, cap', h3', by omega, ?_, ?_⟩
      · rw [hcell, hv']
      · refine Bytes.of_sl (own_sl (by rw [hv'] at hp; exact hp.1)) hbl.1 hbl.2
def t13 : List Int := frame [97] ++ (frame [97]).take 6
theorem shown_split (A : Option Addr) (c : Nat) (W : World) (ht : Tab W) (hl : Bytes W A t13) (hc : 13 ≤ c) : Calls Tryd.prog 12 #[.slice A 13 c] W fun e w' => ∃ b off cv A' cu, e = .returned (.tuple #[.slice (some ⟨b, off, none⟩) 1 cv, .int .i64 7]) ∧ w'.cell? ⟨b, off, none⟩ = some (.slice A' 1 cu) ∧ Bytes w' A' [97] ∧ Below W.heap.size W w' := by
  have h13 : t13.length = 13 := by unfold t13; rw [frame_a]; rfl
  refine (split_any A c 13 t13 W h13.symm (by omega) (by omega) ht hl).mono ?_
  rintro e w' ⟨v, rfl, ho, hb⟩
  have hs : splitOf t13 = ([[97]], 7) := split_shown
  rw [hs] at ho ⊢
  obtain ⟨A', cv, rfl, _, _, h1, h2⟩ := Rws.of_own ho (by intro l hl; obtain rfl := List.mem_singleton.1 hl; exact ⟨by decide, by decide⟩)
  obtain ⟨b, off, rfl, h3⟩ := h2 (by decide)
  obtain ⟨Ai, ci, _, _, h4, h5⟩ := h3 0 (by decide)
  exact ⟨b, off, cv, Ai, ci, rfl, h4, h5, hb⟩
set_option maxHeartbeats 2000000 in
theorem shown_any (w : World) (ht : Tab w) : Calls Tryd.prog 9 #[] w fun e w' => e = .returned (.bool true) ∧ Below w.heap.size w w' := by
  have b1 := Lib.hid ((Below.refl w.heap.size w).alloc (Nat.le_refl _) (.cells #[Value.int .u8 97] 5 (1, 2)))
  have t1 := Lib.hid (ht.below b1.out ht.heap)
  have y1 : Hid (Bytes (w.alloc (.cells #[Value.int .u8 97] 5 (1, 2))) (some ⟨w.heap.size, 0, none⟩) [97]) := Bytes.of_sl (fun _ => ⟨_, _, rfl, fun j u hu => by
    cases j with
    | zero => simp at hu; subst hu; rw [World.cell?_alloc_mark]; rfl
    | succ j => simp at hu⟩) (by decide) (by decide)
  have p1 := Lib.hid (show 0 < [(97 : Int)].length from by decide)
  have p2 := Lib.hid (show [(97 : Int)].length ≤ 65535 from by decide)
  have e1 := Lib.hid (show 1 = [(97 : Int)].length from rfl)
  have n1 := Lib.hid (show 0 < 1 ∨ 65535 < 0 from .inl (by omega))
  have n2 := Lib.hid (show 0 ≤ 9223372036854775807 from by omega)
  have kc := fun (w : World) (C : Array Value) (n c : Nat) => Lib.run_convert_bytes_const (P := Tryd.prog) w 22 5 C n c Tryd.underlying22 Tryd.underlying5
  clear ht
  go_enter Tryd.func9, Tryd.ntmps9
  go_wp2_with (first
    | (go_at_call 10; ((with_reducible refine (put_at _ _ 1 [97] e1.out _ t1.out y1.out p1.out p2.out).mono ?_); rintro e w2 ⟨g, d, rfl, hd, hd', ho, hb⟩; have HD := Lib.hid hd; have HO := Lib.hid ho; have HB := Lib.hid hb; clear hd hd' ho hb))
    | (go_at_call 10; ((with_reducible refine (put_no none 0 0 _ n1.out n2.out).mono ?_); rintro e w' ⟨rfl, rfl⟩)))
  have hT := t1
  clear kc t1 y1 p1 p2 e1 n1 n2
  have hd6 : (6 : Int) ≤ (d : Int) := by have := HD.out; omega
  obtain ⟨i0, hi0, hz0, hz1, hz2⟩ := info_parts byte_info
  have HS7 : Hid (∀ W, Below w2.heap.size w2 W → Sl W (some ⟨g, 0, none⟩) ((frame [97]).map (Value.int .u8))) := fun W hW => (own_sl HO.out).below hW (Nat.le_refl _)
  have HS6 : Hid (∀ W, Below w2.heap.size w2 W → Sl W (some ⟨g, 0, none⟩) (((frame [97]).take 6).map (Value.int .u8))) := fun W hW _ => by
    obtain ⟨b, off, hA, hc⟩ := HS7.out W hW (by rw [frame_a]; decide)
    refine ⟨b, off, hA, fun j u hu => hc j u ?_⟩
    rw [List.map_take, List.getElem?_take] at hu
    split at hu
    · exact hu
    · cases hu
  have l7 := Lib.hid (show ((frame [97]).map (Value.int .u8)).length = 7 * 1 from by rw [frame_a]; rfl)
  have l6 := Lib.hid (show (((frame [97]).take 6).map (Value.int .u8)).length = 6 * 1 from by rw [frame_a]; rfl)
  have m7 : 0 + 7 ≤ maxLen := by unfold maxLen; omega
  have m13 : 7 + 6 ≤ maxLen := by unfold maxLen; omega
  have k7 : (0 + 7) * 1 ≤ 140737488355328 := by omega
  have k13 : (7 + 6) * 1 ≤ 140737488355328 := by omega
  have HT2 := Lib.hid (hT.out.below HB.out (by rw [World.size_alloc]; omega))
  have L13 := Lib.hid (show t13.length ≤ 9223372036854775807 from by unfold t13; rw [frame_a]; decide)
  have M13 := Lib.hid (show ∀ n ∈ t13, 0 ≤ n ∧ n < 256 from by unfold t13; rw [frame_a]; decide)
  have L7 := Lib.hid (show (frame [97]).length ≤ 9223372036854775807 from by rw [frame_a]; decide)
  have M7 := Lib.hid (show ∀ n ∈ frame [97], 0 ≤ n ∧ n < 256 from by rw [frame_a]; decide)
  have L7' := Lib.hid (show 7 = (frame [97]).length from by rw [frame_a]; rfl)
  have S7 := Lib.hid (show strOfNums (frame [97]) = ⟨#[1, 0, 67, 190, 183, 232, 97]⟩ from by rw [frame_a]; rfl)
  have S1 := Lib.hid (show strOfNums [97] = ⟨#[97]⟩ from rfl)
  have HBw := Lib.hid (b1.out.trans (HB.out.mono b1.out.size))
  have BA := Lib.hid ((Below.refl w2.heap.size w2).drew.alloc (Nat.le_refl _) (.cells #[] 5))
  have SA := Lib.hid BA.out.size
  go_region_law (first
    | (refine step_append_sl _ rfl (.tmp 21) (.tmp 22) 22 (by rfl) w2.heap.size 5 i0 _ 1 1 Tryd.underlying22 hi0 hz0 hz1 hz2 rfl Nat.one_pos _ 0 [] (by rfl) (World.ownsRow_made w2.drew #[] 0 (Nat.le_refl _) (Nat.zero_le _) rfl) (some ⟨g, 0, none⟩) 7 d ((frame [97]).map (Value.int .u8)) (by rfl) l7.out (HS7.out _ BA.out) (ints_one _ _) m7 k7 SA.out 7 rfl ?_
       intro A3 c3 w3 hown3 hb3 _ _
       have HO3 := Lib.hid hown3
       have HB3 := Lib.hid (BA.out.trans hb3)
       have HS3 := Lib.hid (HS6.out _ HB3.out)
       clear hown3 hb3)
    | (refine step_append_sl _ rfl (.tmp 23) (.tmp 25) 22 (by rfl) w2.heap.size 5 i0 _ 1 1 Tryd.underlying22 hi0 hz0 hz1 hz2 rfl Nat.one_pos _ 7 _ (by rfl) HO3.out (some ⟨g, 0, none⟩) 6 d (((frame [97]).take 6).map (Value.int .u8)) (by rfl) l6.out HS3.out (ints_one _ _) m13 k13 HB3.out.size 13 rfl ?_
       intro A4 c4 w4 hown4 hb4 _ _
       have HO4 := Lib.hid hown4
       have HB4 := Lib.hid (HB3.out.trans hb4)
       have HT4 := Lib.hid (HT2.out.below HB4.out HT2.out.heap)
       have HY4 := Lib.hid (Bytes.of_sl (l := t13) (by unfold t13; rw [List.map_append]; exact own_sl hown4) L13.out M13.out)
       have HC4 := Lib.hid (own_cap hown4).1
       clear hown4 hb4)
    | (go_simp
       go_at_call 12
       refine (shown_split A4 c4 w4 HT4.out HY4.out HC4.out).mono ?_
       rintro e w5 ⟨b, off, cv, A', cu, rfl, h1, h2, h3⟩
       have HB5 := Lib.hid (HBw.out.trans ((HB4.out.trans (h3.mono HB4.out.size)).mono HBw.out.size))
       have c1 := conv_any (Bytes.of_sl (l := frame [97]) ((HS7.out _ HB4.out).below h3 (Nat.le_refl _)) L7.out M7.out) d 7 L7'.out
       have c2 := conv_any h2 cu 1 rfl
       rw [S7.out] at c1
       rw [S1.out] at c2
       clear h2 h3))
  go_wp2
  go_ret
  exact ⟨rfl, HB5.out⟩
end Go.Proofs.YtlbaedgmbdljpaaDoor
