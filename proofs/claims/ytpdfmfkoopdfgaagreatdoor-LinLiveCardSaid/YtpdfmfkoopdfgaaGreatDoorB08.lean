/- GMem, LClone. -/
import Derived.Test.YtpdfmfkoopdfgaaGreatDoorB07
import Derived.Deep.MidRow
import Derived.Lib.SliceRun
set_option linter.unusedVariables false
set_option linter.unusedSimpArgs false
section
namespace Go.Proofs.YtpdfmfkoopdfgaaGreatDoor.Gr
set_option maxRecDepth 100000
open Go.RowKit Aid

theorem below_set {B : Nat} {a : World} (b : Nat) (hb : B ≤ b) : ∀ (vs : List Value) (o : Nat) {w : World}, Below B a w → Below B a (w.setCells b o vs)
  | [], _, _, h => h
  | v :: r, o, _, h => below_set b hb r (o + 1) (h.setCell (p := ⟨b, o, none⟩) hb v)
def Arc.cells (a : Arc) : List Value := [.int .i64 a.u, .int .i64 a.v, .int .u64 a.w]
def flat : List Arc → List Value
  | [] => []
  | a :: l => .int .i64 a.u :: .int .i64 a.v :: .int .u64 a.w :: flat l
theorem flat_length : ∀ l : List Arc, (flat l).length = l.length * 3
  | [] => rfl
  | a :: l => by simp [flat, flat_length l]; omega
theorem flat_append : ∀ l k : List Arc, flat (l ++ k) = flat l ++ flat k
  | [], _ => rfl
  | a :: l, k => by simp [flat, flat_append l k]
theorem flat_get : ∀ (l : List Arc) (i : Nat) (a : Arc), l[i]? = some a → (flat l)[i * 3]? = some (.int .i64 a.u) ∧ (flat l)[i * 3 + 1]? = some (.int .i64 a.v) ∧ (flat l)[i * 3 + 2]? = some (.int .u64 a.w)
  | [], i, a, h => by simp at h
  | x :: l, 0, a, h => by simp at h; subst h; simp [flat]
  | x :: l, i + 1, a, h => by
    have := flat_get l i a (by simpa using h)
    rw [show (i + 1) * 3 = i * 3 + 1 + 1 + 1 from by omega]
    simpa [flat, show i * 3 + 1 + 1 + 1 + 1 = (i * 3 + 1) + 1 + 1 + 1 from rfl] using this
theorem flat_one : ∀ l : List Arc, ∀ v ∈ flat l, v.oneCell' = true
  | [], v, h => by cases h
  | a :: l, v, h => by
    simp only [flat, List.mem_cons] at h
    rcases h with rfl | rfl | rfl | h
    · rfl
    · rfl
    · rfl
    · exact flat_one l v h
theorem arcs_range {w : World} {b off : Nat} {l : List Arc} (hm : l.length ≤ 9223372036854775807) (hf : ∀ a ∈ l, a.Fine) (h : w.rangeAt b off (flat l)) : Arcs w (some ⟨b, off, none⟩) l :=
  ⟨hm, hf, fun _ => ⟨b, off, rfl, fun i a hi => by
    obtain ⟨h1, h2, h3⟩ := flat_get l i a hi
    exact ⟨h _ _ h1, by rw [Nat.add_assoc]; exact h _ _ h2, by rw [Nat.add_assoc]; exact h _ _ h3⟩⟩⟩
theorem flat_back : ∀ (l : List Arc) (j : Nat) (v : Value), (flat l)[j]? = some v → ∃ i a, l[i]? = some a ∧ (j = i * 3 ∧ v = .int .i64 a.u ∨ j = i * 3 + 1 ∧ v = .int .i64 a.v ∨ j = i * 3 + 2 ∧ v = .int .u64 a.w)
  | [], j, v, h => by simp [flat] at h
  | a :: l, 0, v, h => ⟨0, a, rfl, by simp [flat] at h; exact .inl ⟨rfl, h.symm⟩⟩
  | a :: l, 1, v, h => ⟨0, a, rfl, by simp [flat] at h; exact .inr (.inl ⟨rfl, h.symm⟩)⟩
  | a :: l, 2, v, h => ⟨0, a, rfl, by simp [flat] at h; exact .inr (.inr ⟨rfl, h.symm⟩)⟩
  | a :: l, j + 3, v, h => by
    obtain ⟨i, x, hi, hx⟩ := flat_back l j v (by simpa [flat] using h)
    refine ⟨i + 1, x, by simpa using hi, ?_⟩
    rcases hx with ⟨h1, h2⟩ | ⟨h1, h2⟩ | ⟨h1, h2⟩
    · exact .inl ⟨by omega, h2⟩
    · exact .inr (.inl ⟨by omega, h2⟩)
    · exact .inr (.inr ⟨by omega, h2⟩)
theorem range_arcs {w : World} {A : Option Addr} {l : List Arc} (h : Arcs w A l) (hp : 0 < l.length) : ∃ b off, A = some ⟨b, off, none⟩ ∧ w.rangeAt b off (flat l) := by
  obtain ⟨b, off, hA, hc⟩ := h.2.2 hp
  refine ⟨b, off, hA, fun j v hj => ?_⟩
  obtain ⟨i, a, hi, hx⟩ := flat_back l j v hj
  obtain ⟨c1, c2, c3⟩ := hc i a hi
  rcases hx with ⟨rfl, rfl⟩ | ⟨rfl, rfl⟩ | ⟨rfl, rfl⟩
  · exact c1
  · rw [← Nat.add_assoc]; exact c2
  · rw [← Nat.add_assoc]; exact c3
theorem arcs_sl {w : World} {A : Option Addr} {l : List Arc} (h : Arcs w A l) : Sl w A (flat l) := fun hp => by
  rw [flat_length] at hp
  obtain ⟨b, off, hA, hr⟩ := range_arcs h (by omega)
  exact ⟨b, off, hA, hr⟩
/-- A row of the call's own, as cells. -/
theorem own_range {w : World} {base g n c : Nat} {xs : List Value} (h : w.ownsRow base 60 3 (.slice (some ⟨g, 0, none⟩) n c) n xs) : base ≤ g ∧ n ≤ c ∧ c ≤ maxLen ∧ xs.length = n * 3 ∧ w.rangeAt g 0 xs ∧ w.there g 0 (c * 3) ∧ w.shape? g = some (60, c * 3) := by
  obtain ⟨h0, h1⟩ := h
  rcases h1 with ⟨h1, _⟩ | ⟨g', cap, cur, hv, hg, hh, hnc, hcm, hsz, htk⟩
  · cases h1
  · cases hv
    have hcell : ∀ j, w.cell? ⟨g, j, none⟩ = cur[j]? := fun j => by
      simp [World.cell?, hh]
    refine ⟨hg, hnc, hcm, h0, fun j v hj => ?_, fun j hj => ⟨?_, ?_⟩, ?_⟩
    · rw [Nat.zero_add, hcell, ← hj, ← htk, ← Array.getElem?_toList, List.getElem?_take_of_lt]
      have := (List.getElem?_eq_some_iff.1 hj).1
      omega
    · rw [Nat.zero_add, hcell, Array.getElem?_eq_getElem (by omega)]; rfl
    · simp [World.frozen?, hh]
    · simp [World.shape?, hh, hsz]
theorem own_any3 {w : World} {base : Nat} {e : TypeId} {size : Nat} {v : Value} {n : Nat} {xs : List Value} (h : w.ownsRow base e size v n xs) : (v = .slice none 0 0 ∧ n = 0) ∨ ∃ g c, v = .slice (some ⟨g, 0, none⟩) n c := by
  rcases h.2 with ⟨rfl, rfl⟩ | ⟨g, cap, cur, rfl, _⟩
  · exact .inl ⟨rfl, rfl⟩
  · exact .inr ⟨g, cap, rfl⟩
theorem own_arcs {w : World} {base : Nat} {A : Option Addr} {c n : Nat} {l : List Arc} (hm : l.length ≤ 9223372036854775807) (hf : ∀ a ∈ l, a.Fine) (h : w.ownsRow base 60 3 (.slice A n c) n (flat l)) : Arcs w A l := by
  have hl := h.1
  rw [flat_length] at hl
  rcases own_any3 h with ⟨hv, hn⟩ | ⟨g, c', hv⟩
  · exact ⟨hm, hf, fun hp => by omega⟩
  · cases hv
    exact arcs_range hm hf (own_range h).2.2.2.2.1
theorem arc_info : (Tryz.prog.info? 60).map (fun i => (i.zero, i.size, i.bytes)) = some (some (.agg #[.int .i64 0, .int .i64 0, .int .u64 0]), 3, 24) := by kernel_rfl
theorem own_empty (w : World) : (w.alloc (.cells #[] 60)).ownsRow w.heap.size 60 3 (.slice (some ⟨w.heap.size, 0, none⟩) 0 0) 0 [] :=
  World.ownsRow_made w #[] 0 (Nat.le_refl _) (Nat.zero_le _) rfl
set_option maxHeartbeats 1000000 in
theorem clone_any (A : Option Addr) (c n : Nat) (l : List Arc) (w : World) (hn : n = l.length) (hl : Arcs w A l) (h40 : l.length ≤ 1000) :
    Calls Tryz.prog 140 #[.slice A n c] w fun e w' => ∃ B d, e = .returned (.slice B n d) ∧ w'.ownsRow w.heap.size 60 3 (.slice B n d) n (flat l) ∧ Below w.heap.size w w' := by
  subst hn
  have HF := Lib.hid (flat_one l)
  have HL := Lib.hid (flat_length l)
  have HS := Lib.hid (arcs_sl hl)
  obtain ⟨i0, hi0, hz0, hz1, hz2⟩ := info_parts arc_info
  have qn : ∀ (w : World) (a : Option Addr) (n c : Nat), (binOp .eql 22 (.slice a n c) (.slice none 0 0)).run Tryz.prog w = .ok (.bool a.isNone) w := fun w a n c => Lib.run_eql_slice_nil w 22 60 a n c 0 0 Tryz.underlying22
  cases A with
  | none =>
    have h0 : l.length = 0 := by
      rcases Nat.eq_zero_or_pos l.length with h | h
      · exact h
      · obtain ⟨b, off, hA, _⟩ := hl.2.2 h
        cases hA
    have hx := Lib.hid (show l = [] from List.eq_nil_of_length_eq_zero h0)
    rw [h0]
    clear hl HF HL HS h0
    go_enter Tryz.func140, Tryz.ntmps140
    go_wp2
    go_ret
    exact ⟨none, 0, rfl, by rw [hx.out]; exact World.ownsRow_nil _ _ _ _, Below.refl _ _⟩
  | some a =>
    have HA := Lib.hid ((Below.refl w.heap.size w).alloc (Nat.le_refl _) (.cells #[] 60))
    have HE := Lib.hid (own_empty w)
    have HS2 := Lib.hid (HS.out.below HA.out (Nat.le_refl _))
    have m1 : Hid (0 + l.length ≤ maxLen) := Lib.hid (by unfold maxLen; omega)
    have k1 : Hid ((0 + l.length) * 24 ≤ 140737488355328) := Lib.hid (by omega)
    clear hl
    obtain ⟨ab, ao, asp⟩ := a
    go_enter Tryz.func140, Tryz.ntmps140
    go_wp2_with (
      at_builtin
      refine wpList_append_sl _ rfl (.tmp 5) (.tmp 6) 22 rfl w.heap.size 60 i0 _ 3 24 Tryz.underlying22 hi0 hz0 hz1 hz2 rfl (by omega) _ 0 _ rfl HE.out _ l.length c (flat l) rfl HL.out HS2.out HF.out m1.out k1.out HA.out.size l.length (Nat.zero_add _).symm ?_
      intro A5 c5 w5 hown5 hb5 _ _
      have HO5 := Lib.hid hown5
      have HB5 := Lib.hid (HA.out.trans hb5)
      clear hown5 hb5)
    go_ret
    exact ⟨_, _, rfl, HO5.out, HB5.out⟩
end Go.Proofs.YtpdfmfkoopdfgaaGreatDoor.Gr
end
section
namespace Go.Proofs.YtpdfmfkoopdfgaaGreatDoor
set_option maxRecDepth 100000
open Go.RowKit Aid

theorem bool_info : (Tryz.prog.info? 4).map (fun i => (i.zero, i.size, i.bytes)) = some (some (.bool false), 1, 1) := by kernel_rfl
theorem bools_one (l : List Bool) : ∀ u ∈ l.map Value.bool, u.oneCell' = true := fun u hu => by
  obtain ⟨b, _, rfl⟩ := List.mem_map.1 hu; rfl
theorem own_emptyB (w : World) : (w.alloc (.cells #[] 4)).ownsRow w.heap.size 4 1 (.slice (some ⟨w.heap.size, 0, none⟩) 0 0) 0 [] :=
  World.ownsRow_made w #[] 0 (Nat.le_refl _) (Nat.zero_le _) rfl
set_option maxHeartbeats 1000000 in
theorem cloneB_any (A : Option Addr) (c n : Nat) (l : List Bool) (w : World) (hn : n = l.length) (hl : Sl w A (l.map Value.bool)) (h40 : l.length ≤ 1000000) :
    Calls Tryz.prog 98 #[.slice A n c] w fun e w' => ∃ B d, e = .returned (.slice B n d) ∧ w'.ownsRow w.heap.size 4 1 (.slice B n d) n (l.map Value.bool) ∧ Below w.heap.size w w' := by
  subst hn
  have HF := Lib.hid (bools_one l)
  have HL := Lib.hid (show (l.map Value.bool).length = l.length * 1 by simp)
  have HS := Lib.hid hl
  obtain ⟨i0, hi0, hz0, hz1, hz2⟩ := info_parts bool_info
  have qn : ∀ (w : World) (a : Option Addr) (n c : Nat), (binOp .eql 34 (.slice a n c) (.slice none 0 0)).run Tryz.prog w = .ok (.bool a.isNone) w := fun w a n c => Lib.run_eql_slice_nil w 34 4 a n c 0 0 Tryz.underlying34
  cases A with
  | none =>
    have h0 : l.length = 0 := by
      rcases Nat.eq_zero_or_pos l.length with h | h
      · exact h
      · obtain ⟨b, off, hA, _⟩ := hl (by simpa using h)
        cases hA
    have hx := Lib.hid (show l = [] from List.eq_nil_of_length_eq_zero h0)
    rw [h0]
    clear hl HF HL HS h0
    go_enter Tryz.func98, Tryz.ntmps98
    go_wp2
    go_ret
    exact ⟨none, 0, rfl, by rw [hx.out]; exact World.ownsRow_nil _ _ _ _, Below.refl _ _⟩
  | some a =>
    have HA := Lib.hid ((Below.refl w.heap.size w).alloc (Nat.le_refl _) (.cells #[] 4))
    have HE := Lib.hid (own_emptyB w)
    have HS2 := Lib.hid (HS.out.below HA.out (Nat.le_refl _))
    have m1 : Hid (0 + l.length ≤ maxLen) := Lib.hid (by unfold maxLen; omega)
    have k1 : Hid ((0 + l.length) * 1 ≤ 140737488355328) := Lib.hid (by omega)
    clear hl
    obtain ⟨ab, ao, asp⟩ := a
    go_enter Tryz.func98, Tryz.ntmps98
    go_wp2_with (
      at_builtin
      refine wpList_append_sl _ rfl (.tmp 5) (.tmp 6) 34 rfl w.heap.size 4 i0 _ 1 1 Tryz.underlying34 hi0 hz0 hz1 hz2 rfl (by omega) _ 0 _ rfl HE.out _ l.length c (l.map Value.bool) rfl HL.out HS2.out HF.out m1.out k1.out HA.out.size l.length (Nat.zero_add _).symm ?_
      intro A5 c5 w5 hown5 hb5 _ _
      have HO5 := Lib.hid hown5
      have HB5 := Lib.hid (HA.out.trans hb5)
      clear hown5 hb5)
    go_ret
    exact ⟨_, _, rfl, HO5.out, HB5.out⟩
end Go.Proofs.YtpdfmfkoopdfgaaGreatDoor
end
