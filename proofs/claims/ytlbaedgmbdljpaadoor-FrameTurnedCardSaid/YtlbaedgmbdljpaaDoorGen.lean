/- The contracts as the statements' walks use them: Put, Split and their references, at every text. -/
import Derived.Test.YtlbaedgmbdljpaaDoorShown
namespace Go.Proofs.YtlbaedgmbdljpaaDoor
open Go.RowKit Aid

/-- What Put lays; its error. -/
def putOf (l : List Int) : List Int := if 1 ≤ l.length ∧ l.length ≤ 65535 then frame l else []
def putErr (l : List Int) : Int := if 1 ≤ l.length ∧ l.length ≤ 65535 then 0 else 1
theorem putOf_yes {l : List Int} (h0 : 1 ≤ l.length) (h1 : l.length ≤ 65535) : putOf l = frame l := if_pos ⟨h0, h1⟩
theorem putErr_yes {l : List Int} (h0 : 1 ≤ l.length) (h1 : l.length ≤ 65535) : putErr l = 0 := if_pos ⟨h0, h1⟩
theorem putOf_no {l : List Int} (h : l.length < 1 ∨ 65535 < l.length) : putOf l = [] := if_neg (by omega)
theorem putErr_no {l : List Int} (h : l.length < 1 ∨ 65535 < l.length) : putErr l = 1 := if_neg (by omega)
theorem bytesOf_bounds (x : Int) (k : Nat) : ∀ n ∈ bytesOf x k, 0 ≤ n ∧ n < 256 := fun n hn => by
  unfold bytesOf at hn
  obtain ⟨i, _, rfl⟩ := List.mem_map.1 hn
  omega
theorem frame_bounds {l : List Int} (h : ∀ n ∈ l, 0 ≤ n ∧ n < 256) : ∀ n ∈ frame l, 0 ≤ n ∧ n < 256 := fun n hn => by
  unfold frame heads at hn
  rcases List.mem_append.1 hn with h1 | h1
  · rcases List.mem_append.1 h1 with h2 | h2
    · exact bytesOf_bounds _ _ n h2
    · exact bytesOf_bounds _ _ n h2
  · exact h n h1
theorem putOf_bounds {l : List Int} (h : ∀ n ∈ l, 0 ≤ n ∧ n < 256) : ∀ n ∈ putOf l, 0 ≤ n ∧ n < 256 := fun n hn => by
  unfold putOf at hn
  split at hn
  · exact frame_bounds h n hn
  · cases hn
/-- What a Put hands back. -/
def PutPost (w : World) (l : List Int) (e : Ending) (w' : World) : Prop :=
  ∃ B d, e = .returned (.tuple #[.slice B (putOf l).length d, .int .i64 (putErr l)]) ∧ Bytes w' B (putOf l) ∧ (putOf l).length ≤ d ∧ d ≤ 9223372036854775807 ∧ Below w.heap.size w w'
theorem putPost_of_own {w w' : World} {l : List Int} {B : Option Addr} {d base : Nat} (hb : ∀ n ∈ l, 0 ≤ n ∧ n < 256) (h0 : 1 ≤ l.length) (h1 : l.length ≤ 65535) (ho : w'.ownsRow base 5 1 (.slice B (l.length + 6) d) (l.length + 6) ((frame l).map (Value.int .u8))) (hw : Below w.heap.size w w') :
    PutPost w l (.returned (.tuple #[.slice B (l.length + 6) d, .int .i64 0])) w' := by
  have hm : maxLen = 9223372036854775807 := rfl
  have hc := own_cap ho
  refine ⟨B, d, ?_, ?_, ?_, by omega, hw⟩
  · rw [putOf_yes h0 h1, putErr_yes h0 h1, frame_length]
  · rw [putOf_yes h0 h1]
    exact Bytes.of_sl (own_sl ho) (by rw [frame_length]; omega) (frame_bounds hb)
  · rw [putOf_yes h0 h1, frame_length]; exact hc.1
theorem putPost_no {w : World} {l : List Int} (h : l.length < 1 ∨ 65535 < l.length) : PutPost w l (.returned (.tuple #[.slice none 0 0, .int .i64 1])) w := by
  refine ⟨none, 0, by rw [putOf_no h, putErr_no h]; rfl, ?_, by rw [putOf_no h]; simp, by omega, Below.refl _ _⟩
  rw [putOf_no h]
  exact ⟨by simp, by simp, fun h => by simp at h⟩
theorem put_gen (A : Option Addr) (c n : Nat) (l : List Int) (hn : n = l.length) (w : World) (ht : Tab w) (hl : Bytes w A l) :
    Calls Tryd.prog 10 #[.slice A n c] w fun e w' => PutPost w l e w' := by
  subst hn
  by_cases h : l.length < 1 ∨ 65535 < l.length
  · refine (put_no A c l.length w h hl.1).mono ?_
    rintro e w' ⟨rfl, rfl⟩
    exact putPost_no h
  · refine (put_yes w.heap.size A c l w (Nat.le_refl _) ht.heap ht hl (Nat.le_refl _) (by omega) (by omega)).mono ?_
    rintro e w' ⟨B, d, rfl, ho, hb⟩
    exact putPost_of_own hl.2.1 (by omega) (by omega) ho hb
theorem refPut_gen (A : Option Addr) (c n : Nat) (l : List Int) (hn : n = l.length) (w : World) (hl : Bytes w A l) :
    Calls Tryd.prog 11 #[.slice A n c] w fun e w' => PutPost w l e w' := by
  subst hn
  by_cases h : l.length < 1 ∨ 65535 < l.length
  · refine (refPut_no A c l.length w h hl.1).mono ?_
    rintro e w' ⟨rfl, rfl⟩
    exact putPost_no h
  · refine (refPut_yes w.heap.size A c l w (Nat.le_refl _) hl (Nat.le_refl _) (by omega) (by omega)).mono ?_
    rintro e w' ⟨B, d, rfl, ho, hb⟩
    exact putPost_of_own hl.2.1 (by omega) (by omega) ho hb

theorem split_facts : ∀ (k : Nat) (s : List Int), s.length ≤ k → (∀ n ∈ s, 0 ≤ n ∧ n < 256) →
    (splitOf s).2 ≤ s.length ∧ (splitOf s).1.length ≤ s.length ∧ ∀ l ∈ (splitOf s).1, 1 ≤ l.length ∧ l.length ≤ 65535 ∧ l.length ≤ s.length ∧ ∀ n ∈ l, 0 ≤ n ∧ n < 256
  | 0, s, h, _ => by rw [splitOf_stop (fun f => by have := f.1; omega)]; simp
  | k + 1, s, h, hb => by
    by_cases hf : Fits s
    · have h6 := hf.1
      have h1 := hf.2.1
      have h2 := hf.2.2.1
      have hd : (s.drop (6 + size2 s)).length = s.length - (6 + size2 s) := List.length_drop
      obtain ⟨i1, i2, i3⟩ := split_facts k (s.drop (6 + size2 s)) (by omega) (fun n hn => hb n (List.mem_of_mem_drop hn))
      have hs : size2 s < 65536 := by
        have hq := num_bound (s.take 2) (fun n hn => hb n (List.mem_of_mem_take hn))
        rw [show (s.take 2).length = 2 from by rw [List.length_take]; omega] at hq
        unfold size2; omega
      rw [splitOf_go hf]
      refine ⟨by show 6 + size2 s + _ ≤ _; omega, by show (_ :: _ : List (List Int)).length ≤ _; rw [List.length_cons]; omega, fun l hl => ?_⟩
      rcases List.mem_cons.1 hl with rfl | hl
      · rw [body_length hf]
        exact ⟨h1, by omega, by omega, fun n hn => by unfold body at hn; exact hb n (List.mem_of_mem_drop (List.mem_of_mem_take hn))⟩
      · obtain ⟨j1, j2, j3, j4⟩ := i3 l hl
        exact ⟨j1, j2, by omega, j4⟩
    · rw [splitOf_stop hf]; simp
/-- What a Split hands back. -/
def SplitPost (w : World) (s : List Int) (e : Ending) (w' : World) : Prop :=
  ∃ B d, e = .returned (.tuple #[.slice B (splitOf s).1.length d, .int .i64 ((splitOf s).2 : Int)]) ∧ Rws w' B (splitOf s).1 ∧ (splitOf s).1.length ≤ d ∧ d ≤ 9223372036854775807 ∧ Below w.heap.size w w'
theorem splitPost_of_own {w w' : World} {s : List Int} {v : Value} (hb : ∀ n ∈ s, 0 ≤ n ∧ n < 256) (ho : Own2 w.heap.size w' v (splitOf s).1) (hw : Below w.heap.size w w') :
    SplitPost w s (.returned (.tuple #[v, .int .i64 ((splitOf s).2 : Int)])) w' := by
  obtain ⟨_, _, hf⟩ := split_facts _ s (Nat.le_refl _) hb
  obtain ⟨A, c, rfl, h1, h2, h3⟩ := Rws.of_own ho (fun l hl => ⟨by have := (hf l hl).2.1; omega, (hf l hl).2.2.2⟩)
  exact ⟨A, c, rfl, h3, h1, h2, hw⟩
theorem split_gen (A : Option Addr) (cap n : Nat) (s : List Int) (hn : n = s.length) (hcap : s.length ≤ cap) (hs : s.length ≤ 100000) (w : World) (ht : Tab w) (hl : Bytes w A s) :
    Calls Tryd.prog 12 #[.slice A n cap] w fun e w' => SplitPost w s e w' := by
  refine (split_any A cap n s w hn hcap hs ht hl).mono ?_
  rintro e w' ⟨v, rfl, ho, hb⟩
  exact splitPost_of_own hl.2.1 ho hb
theorem refSplit_gen (A : Option Addr) (cap n : Nat) (s : List Int) (hn : n = s.length) (hcap : s.length ≤ cap) (hs : s.length ≤ 100000) (w : World) (hl : Bytes w A s) :
    Calls Tryd.prog 13 #[.slice A n cap] w fun e w' => SplitPost w s e w' := by
  refine (refSplit_any A cap n s w hn hcap hs hl).mono ?_
  rintro e w' ⟨v, rfl, ho, hb⟩
  exact splitPost_of_own hl.2.1 ho hb
theorem rows_same (A B : Option Addr) (c d n m : Nat) (L M : List (List Int)) (hn : n = L.length) (hm : m = M.length) (he : L = M) (w : World) (hA : Rws w A L) (hB : Rws w B M) :
    Calls Tryd.prog 14 #[.slice A n c, .slice B m d] w fun e w' => e = .returned (.bool true) ∧ Below w.heap.size w w' := by
  refine (rows_any A B c d n m L M w hn hm hA hB).mono ?_
  rintro e w' ⟨rfl, q, rfl⟩
  exact ⟨by rw [decide_eq_true he], below_drewN (Below.refl _ _) q⟩
attribute [irreducible] putOf putErr
end Go.Proofs.YtlbaedgmbdljpaaDoor
