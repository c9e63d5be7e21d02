/- HSortOwn. -/
import Derived.Test.YtpdfmfkoopdfgaaGreatDoorB01
import Derived.Test.YtpdfmfkoopdfgaaGreatDoorB10
import Derived.Sort.OwnSortedInts
import Derived.Lib.OwnBridge
set_option linter.unusedVariables false
set_option linter.unusedSimpArgs false
namespace Go.Proofs.YtpdfmfkoopdfgaaGreatDoor.Hs
set_option maxRecDepth 100000
open Go.RowKit Go.Shelf Go.Sort Aid

def sorted (zs : List Int) : List Int := zs.mergeSort fun x y => decide (x ≤ y)
def uniq (zs : List Int) : List Int := Lib.compact (sorted zs)
theorem sorted_length (zs : List Int) : (sorted zs).length = zs.length := List.length_mergeSort zs
theorem uniq_le (zs : List Int) : (uniq zs).length ≤ zs.length := by
  have := Lib.compact_length_le (sorted zs)
  rw [sorted_length] at this
  exact this
theorem sort_own (base : Nat) (A : Option Addr) (n c : Nat) (zs : List Int) (w : World) (ho : w.ownsRow base 3 1 (.slice A n c) n (zs.map (Value.int .i64))) (hb : base ≤ w.heap.size) (h40 : n ≤ 100000) :
    Calls Tryz.prog 82 #[.slice A n c] w fun e w' => e = .returned (.tuple #[]) ∧ w'.ownsRow base 3 1 (.slice A n c) n ((sorted zs).map (Value.int .i64)) ∧ Below base w w' := by
  by_cases hv : (Value.slice A n c) = .slice none 0 0
  · cases hv
    have hz : zs = [] := by have := ho.1; simp at this; exact this
    subst hz
    refine (Tryz.slices_Sort_int_none none 0 w).mono ?_
    rintro e w' ⟨rfl, rfl⟩
    exact ⟨rfl, by simpa [sorted] using ho, Below.refl _ _⟩
  · obtain ⟨g, cap, he, hbg, hgl, hncap, hcm, hlen, hH⟩ := Lib.holds_of_ownsRow ho hv
    cases he
    rcases ho.2 with ⟨h0, _⟩ | ⟨g', cap', cur, hv', hbase, hbl, h1, h2, h3, h4⟩
    · exact absurd h0 hv
    cases hv'
    have h := Tryz.slices_Sort_int g 0 c zs w hH hgl (by omega)
    rw [hlen] at h
    refine h.mono ?_
    rintro e w' ⟨rfl, q, os, rfl⟩
    have hs := ownsRow_sortedI (w := w) (n := q) (os := os) (ss := zs) (ts := sorted zs) (sorted_length zs) hbase hbl (by omega) h2 h3
    rw [hlen] at hs
    exact ⟨rfl, hs, (Below.refl _ _).grown (grownBy_sortedI _) hb (fun j hj => by cases hj; exact hbase)⟩
theorem compact_own (base : Nat) (A : Option Addr) (n c : Nat) (zs : List Int) (w : World) (ho : w.ownsRow base 3 1 (.slice A n c) n (zs.map (Value.int .i64))) (h40 : n ≤ 100000) :
    Calls Tryz.prog 83 #[.slice A n c] w fun e w' => e = .returned (.slice A (Lib.compact zs).length c) ∧ w'.ownsRow base 3 1 (.slice A (Lib.compact zs).length c) (Lib.compact zs).length ((Lib.compact zs).map (Value.int .i64)) ∧ Below base w w' := by
  by_cases hv : (Value.slice A n c) = .slice none 0 0
  · cases hv
    have hz : zs = [] := by have := ho.1; simp at this; exact this
    subst hz
    have hc : Lib.compact ([] : List Int) = [] := by rfl
    rw [hc]
    refine (Tryz.slices_Compact_int_empty none 0 w).mono ?_
    rintro e w' ⟨rfl, rfl⟩
    exact ⟨rfl, ho, Below.refl _ _⟩
  · obtain ⟨g, cap, he, hbg, hgl, hncap, hcm, hlen, hH⟩ := Lib.holds_of_ownsRow ho hv
    cases he
    have h := Tryz.slices_Compact_int g 0 c zs w hH (by omega) (by omega)
    rw [hlen] at h
    refine h.mono ?_
    rintro e w' ⟨rfl, q, rfl⟩
    have hle := Lib.compact_length_le zs
    have hc := Lib.ownsRow_putRow (q := q) (k := (Lib.compact zs).length) (ys := Lib.compact zs ++ List.replicate (n - (Lib.compact zs).length) 0) ho (by simp; omega) (by omega)
    rw [List.take_left' rfl] at hc
    exact ⟨rfl, hc, Lib.below_putRow (Below.refl _ _) hbg⟩
end Go.Proofs.YtpdfmfkoopdfgaaGreatDoor.Hs
