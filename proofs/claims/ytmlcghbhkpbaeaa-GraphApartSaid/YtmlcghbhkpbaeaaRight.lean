/- graph.Right, of rows that rise. -/
import Derived.Test.YtmlcghbhkpbaeaaRow
namespace Go.Proofs.Ytmlcghbhkpbaeaa
open Go.RowKit Aid

theorem keep6b {b o p : Nat} {c1 c2 c3 d1 d2 d3 : Value} {W0 w' w'' : World} {q : Nat} {e1 : Value}
    (h : w'.cell? ⟨b, o, none⟩ = some c1 ∧ w'.cell? ⟨b, o + 1, none⟩ = some c2 ∧ w'.cell? ⟨b, o + 2, none⟩ = some c3 ∧ w'.cell? ⟨p, 0, none⟩ = some d1 ∧ w'.cell? ⟨p, 1, none⟩ = some d2 ∧ w'.cell? ⟨p, 2, none⟩ = some d3 ∧ w'.cell? ⟨q, 0, none⟩ = some e1 ∧ Below W0.heap.size W0 w') (hb : Below w'.heap.size w' w'') :
    w''.cell? ⟨b, o, none⟩ = some c1 ∧ w''.cell? ⟨b, o + 1, none⟩ = some c2 ∧ w''.cell? ⟨b, o + 2, none⟩ = some c3 ∧ w''.cell? ⟨p, 0, none⟩ = some d1 ∧ w''.cell? ⟨p, 1, none⟩ = some d2 ∧ w''.cell? ⟨p, 2, none⟩ = some d3 ∧ w''.cell? ⟨q, 0, none⟩ = some e1 ∧ Below W0.heap.size W0 w'' := by
  obtain ⟨h1, h2, h3, h4, h5, h6, h8, h7⟩ := h
  have l1 := World.block_lt_of_cell? _ _ h1
  have l4 := World.block_lt_of_cell? _ _ h4
  have l8 := World.block_lt_of_cell? _ _ h8
  exact ⟨(hb.cell (p := ⟨b, o, none⟩) l1).trans h1, (hb.cell (p := ⟨b, o + 1, none⟩) l1).trans h2, (hb.cell (p := ⟨b, o + 2, none⟩) l1).trans h3, (hb.cell (p := ⟨p, 0, none⟩) l4).trans h4, (hb.cell (p := ⟨p, 1, none⟩) l4).trans h5, (hb.cell (p := ⟨p, 2, none⟩) l4).trans h6, (hb.cell (p := ⟨q, 0, none⟩) l8).trans h8, h7.trans (hb.mono h7.size)⟩
set_option maxHeartbeats 8000000 in
set_option maxRecDepth 100000 in
theorem right_any (A : Option Addr) (c n : Nat) (l : List Arc) (w : World) (hn : n = l.length) (hl : Arcs w A l) (hs : Rises l) (h40 : l.length ≤ 1000) :
    Calls Try.prog 17 #[.slice A n c] w fun e w' => e = .returned (.bool (!l.any fun a => !rowB l a)) ∧ Below w.heap.size w w' := by
  subst hn
  have HL := Lib.hid hl
  have HS := Lib.hid hs
  clear hl hs
  have bB := Lib.hid ((Below.refl w.heap.size w).alloc (Nat.le_refl _) (.cells #[.slice A l.length c] 22))
  have q0 : Hid ((w.alloc (.cells #[.slice A l.length c] 22)).cell? ⟨w.heap.size, 0, none⟩ = some (.slice A l.length c)) := Lib.hid (by rw [World.cell?_alloc_new]; rfl)
  have cB : (w.alloc (.cells #[.slice A l.length c] 22)).cell? ⟨w.heap.size, 0, none⟩ = some (.slice A l.length c) := q0.out
  go_enter Try.func17, Try.ntmps17
  go_wp2
  go_loopw [7] (fun v wr => ∃ i : Nat, i ≤ l.length ∧ v = .int .i64 i ∧ Below (w.alloc (.cells #[.slice A l.length c] 22)).heap.size (w.alloc (.cells #[.slice A l.length c] 22)) wr) (fun v _ => l.length - (intOf v).toNat)
  case atStart => exact ⟨0, Nat.zero_le _, rfl, Below.refl _ _⟩
  case round =>
    obtain ⟨i, hi, rfl, hb⟩ := hrel
    have HB := Lib.hid hb
    have HB2 := Lib.hid (bB.out.trans (hb.mono bB.out.size))
    clear hb cB
    have g0 := (HB.out.cell (p := ⟨w.heap.size, 0, none⟩) (World.block_lt_of_cell? _ _ q0.out)).trans q0.out
    by_cases hlt : i < l.length
    · obtain ⟨a, hal⟩ : ∃ a, l[i]? = some a := ⟨_, List.getElem?_eq_getElem hlt⟩
      have bA := Lib.hid ((Below.refl wr.heap.size wr).alloc (Nat.le_refl _) (.cells #[.int .i64 a.u, .int .i64 a.v, .int .u64 a.w] 41))
      have HBn := Lib.hid (show ∀ W, Below wr.heap.size wr W → Below (w.alloc (.cells #[.slice A l.length c] 22)).heap.size (w.alloc (.cells #[.slice A l.length c] 22)) W from fun W h => HB.out.trans (h.mono HB.out.size))
      obtain ⟨b, off, hA, hcs⟩ := (HL.out.below HB2.out (Nat.le_refl _)).2.2 (by omega)
      subst hA
      obtain ⟨c1, c2, c3⟩ := hcs i a hal
      have i0 : (0 : Int) ≤ (i : Int) := by omega
      have i1 : (i : Int) < (l.length : Int) := by omega
      have p0 : (wr.alloc (.cells #[.int .i64 a.u, .int .i64 a.v, .int .u64 a.w] 41)).cell? ⟨wr.heap.size, 0, none⟩ = some (.int .i64 a.u) := by rw [World.cell?_alloc_new]; rfl
      have p1 : (wr.alloc (.cells #[.int .i64 a.u, .int .i64 a.v, .int .u64 a.w] 41)).cell? ⟨wr.heap.size, 1, none⟩ = some (.int .i64 a.v) := by rw [World.cell?_alloc_new]; rfl
      have p2 : (wr.alloc (.cells #[.int .i64 a.u, .int .i64 a.v, .int .u64 a.w] 41)).cell? ⟨wr.heap.size, 2, none⟩ = some (.int .u64 a.w) := by rw [World.cell?_alloc_new]; rfl
      have HP := Lib.hid (And.intro p0 (And.intro p1 p2))
      have HG0 := Lib.hid g0
      clear p0 p1 p2
      by_cases hi0 : i = 0
      · have hd : decide ((0 : Int) < (i : Int)) = false := by (simp; try omega)
        have hd2 : decide (0 < i) = false := by simp; omega
        clear hcs hi0 HG0
        go_wp2
        go_quiet (fail)
        go_wp2
        go_roundw
        case rel => exact ⟨i + 1, by omega, by go_num, HBn.out _ (below_drewN bA.out _)⟩
        case measure => simp [intOf]; omega
      · obtain ⟨m, rfl⟩ : ∃ m, i = m + 1 := ⟨i - 1, by omega⟩
        obtain ⟨p, hp⟩ : ∃ p, l[m]? = some p := ⟨_, List.getElem?_eq_getElem (by omega)⟩
        have hd : decide ((0 : Int) < (m : Int) + 1) = true := decide_eq_true (by omega)
        have i4 : (0 : Int) ≤ (m : Int) + 1 := by omega
        have n1 : IntKind.i64.wrap ((m : Int) + 1 - 1) = (m : Int) := by rw [IntKind.wrap_i64] <;> omega
        have n2 : IntKind.i64.wrap (m : Int) = (m : Int) := by rw [IntKind.wrap_i64] <;> omega
        have i5 : (m : Int) + 1 < (l.length : Int) := by omega
        have i6 : (0 : Int) ≤ (m : Int) := by omega
        have i7 : (m : Int) < (l.length : Int) := by omega
        obtain ⟨d1, d2, d3⟩ := hcs m p hp
        have blt := World.block_lt_of_cell? wr _ d1
        have e1 := (bA.out.cell (p := ⟨b, off + m * 3, none⟩) blt).trans d1
        have e2 := (bA.out.cell (p := ⟨b, off + m * 3 + 1, none⟩) blt).trans d2
        have e3 := (bA.out.cell (p := ⟨b, off + m * 3 + 2, none⟩) blt).trans d3
        have e4 := (bA.out.cell (p := ⟨w.heap.size, 0, none⟩) (World.block_lt_of_cell? wr _ g0)).trans g0
        have HK := Lib.hid (And.intro e1 (And.intro e2 (And.intro e3 (And.intro HP.out.1 (And.intro HP.out.2.1 (And.intro HP.out.2.2 (And.intro e4 (Below.refl (wr.alloc (.cells #[.int .i64 a.u, .int .i64 a.v, .int .u64 a.w] 41)).heap.size (wr.alloc (.cells #[.int .i64 a.u, .int .i64 a.v, .int .u64 a.w] 41))).drew)))))))
        have ho := (ord_neg p a).2 (HS.out m (m + 1) p a (by omega) hp hal)
        have g1 : decide (0 ≤ ordI p a) = false := by simp; omega
        have HM := Lib.hid (show ∀ W, Below (wr.alloc (.cells #[.int .i64 a.u, .int .i64 a.v, .int .u64 a.w] 41)).heap.size (wr.alloc (.cells #[.int .i64 a.u, .int .i64 a.v, .int .u64 a.w] 41)) W → Below (w.alloc (.cells #[.slice (some ⟨b, off, none⟩) l.length c] 22)).heap.size (w.alloc (.cells #[.slice (some ⟨b, off, none⟩) l.length c] 22)) W from fun W h => HBn.out W (bA.out.trans (h.mono bA.out.size)))
        clear hcs hi0 HG0 hp d1 d2 d3 e1 e2 e3 e4 g0 ho HP
        go_wp2
        generalize wr.alloc (.cells #[.int .i64 a.u, .int .i64 a.v, .int .u64 a.w] 41) = WA at HK HM bA ⊢
        go_region_held3 (fun w' => w'.cell? ⟨b, off + m * 3, none⟩ = some (.int .i64 p.u) ∧ w'.cell? ⟨b, off + m * 3 + 1, none⟩ = some (.int .i64 p.v) ∧ w'.cell? ⟨b, off + m * 3 + 2, none⟩ = some (.int .u64 p.w) ∧ w'.cell? ⟨wr.heap.size, 0, none⟩ = some (.int .i64 a.u) ∧ w'.cell? ⟨wr.heap.size, 1, none⟩ = some (.int .i64 a.v) ∧ w'.cell? ⟨wr.heap.size, 2, none⟩ = some (.int .u64 a.w) ∧ w'.cell? ⟨w.heap.size, 0, none⟩ = some (.slice (some ⟨b, off, none⟩) l.length c) ∧ Below WA.heap.size WA w') (first | exact HK.out | assumption | exact keep6b (by assumption) (by assumption))
          (first | (go_at_call 27; refine (order_any p a _).mono ?_; rintro e w' ⟨rfl, hb⟩))
        have HX := Lib.hid (HM.out _ ((Below.refl WA.heap.size WA).drew.trans hb))
        clear hb
        go_wp2
        go_roundw
        case rel => exact ⟨m + 1 + 1, by omega, by go_num, HX.out⟩
        case measure => simp [intOf]; omega
    · have HC := Lib.hid (contains_any 29 #[.pointer (some ⟨w.heap.size, 0, none⟩)] call29 (fun a => !rowB l a) A c l.length l wr rfl (HL.out.below HB2.out (Nat.le_refl _)) h40 (says3 g0 (in_at (HL.out.below HB2.out (Nat.le_refl _)) HS.out h40)))
      go_wp2_with (go_at_call 28; ((with_reducible refine HC.out.mono ?_); rintro e w' ⟨rfl, hb⟩; have HB3 := Lib.hid (HB2.out.trans (hb.mono HB2.out.size)); clear hb))
      go_ret
      exact ⟨rfl, HB3.out⟩
end Go.Proofs.Ytmlcghbhkpbaeaa
