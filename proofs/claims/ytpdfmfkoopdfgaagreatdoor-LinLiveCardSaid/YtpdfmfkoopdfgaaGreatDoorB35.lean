/- LRows, LLex, PLex. -/
import Derived.Test.YtpdfmfkoopdfgaaGreatDoorB34
import Derived.Sort.Grow
set_option linter.unusedVariables false
set_option linter.unusedSimpArgs false
section
namespace Go.Proofs.YtpdfmfkoopdfgaaGreatDoor
set_option maxRecDepth 100000
open Go.RowKit Aid Gr Hs LinP HeapP

/-- A world that has only made more, and drawn. -/
def Grw (w w' : World) : Prop := ∃ q os, w' = Go.Sort.grow (w.drewN q) os
theorem Grw.refl (w : World) : Grw w w := ⟨0, #[], by rw [Go.Sort.grow_empty]; rfl⟩
theorem Grw.drew {w w' : World} (h : Grw w w') : Grw w w'.drew := by
  obtain ⟨q, os, rfl⟩ := h
  exact ⟨q + 1, os, rfl⟩
theorem Grw.alloc {w w' : World} (h : Grw w w') (o : Obj) : Grw w (w'.alloc o) := by
  obtain ⟨q, os, rfl⟩ := h
  refine ⟨q, os ++ #[o], ?_⟩
  rw [Go.Sort.alloc_eq_grow, Go.Sort.grow_grow]
theorem Grw.trans {a b c : World} (h : Grw a b) (k : Grw b c) : Grw a c := by
  obtain ⟨q, os, rfl⟩ := h
  obtain ⟨r, ps, rfl⟩ := k
  refine ⟨q + r, os ++ ps, ?_⟩
  rw [← Go.Sort.grow_grow]
  unfold Go.Sort.grow World.drewN
  simp [Nat.add_assoc]
theorem Grw.below {w w' : World} (h : Grw w w') : Below w.heap.size w w' := by
  obtain ⟨q, os, rfl⟩ := h
  exact grow_below w q os
def rowsC (a b : Arc) : Int := orI [Lib.compareInt a.u b.u, Lib.compareInt a.v b.v, Lib.compareInt a.w b.w]
set_option maxHeartbeats 8000000 in
theorem rows_any (a b : Arc) (w : World) : Calls Tryz.prog 25 #[a.val, b.val] w fun e w' => e = .returned (.int .i64 (rowsC a b)) ∧ Grw w w' := by
  unfold rowsC Arc.val
  obtain ⟨au, av, aw⟩ := a
  obtain ⟨bu, bv, bw⟩ := b
  simp only
  have C1 := Lib.hid (fun W => Tryz.cmp_Compare_int au bu W)
  have C2 := Lib.hid (fun W => Tryz.cmp_Compare_int av bv W)
  have C3 := Lib.hid (fun W => compare43 aw bw W)
  generalize Lib.compareInt au bu = x at C1 ⊢
  generalize Lib.compareInt av bv = y at C2 ⊢
  generalize Lib.compareInt aw bw = z at C3 ⊢
  obtain ⟨w1, hw1⟩ : ∃ w1, w1 = (w.alloc (.cells #[.int .i64 au, .int .i64 av, .int .u64 aw] 60)).alloc (.cells #[.int .i64 bu, .int .i64 bv, .int .u64 bw] 60) := ⟨_, rfl⟩
  have G1 : Hid (Grw w w1) := Lib.hid (by rw [hw1]; exact ((Grw.refl w).alloc _).alloc _)
  have SW : Hid (∀ W : World, Below w1.heap.size w1 W → W.cell? ⟨w.heap.size, 0, none⟩ = some (.int .i64 au) ∧ W.cell? ⟨w.heap.size, 1, none⟩ = some (.int .i64 av) ∧ W.cell? ⟨w.heap.size, 2, none⟩ = some (.int .u64 aw) ∧ W.cell? ⟨w.heap.size + 1, 0, none⟩ = some (.int .i64 bu) ∧ W.cell? ⟨w.heap.size + 1, 1, none⟩ = some (.int .i64 bv) ∧ W.cell? ⟨w.heap.size + 1, 2, none⟩ = some (.int .u64 bw)) := Lib.hid fun W hW => by
    have k1 : w1.heap[w.heap.size]? = some (.cells #[.int .i64 au, .int .i64 av, .int .u64 aw] 60 (0, 0)) := by
      rw [hw1]; exact heapL (heap_alloc_new w _) ((Below.refl _ _).alloc (Nat.le_refl _) _)
    have k2 : w1.heap[w.heap.size + 1]? = some (.cells #[.int .i64 bu, .int .i64 bv, .int .u64 bw] 60 (0, 0)) := by
      have := heap_alloc_new (w.alloc (.cells #[.int .i64 au, .int .i64 av, .int .u64 aw] 60)) (.cells #[.int .i64 bu, .int .i64 bv, .int .u64 bw] 60)
      rw [World.size_alloc] at this
      rw [hw1]; exact this
    have l1 := heapL k1 hW
    have l2 := heapL k2 hW
    refine ⟨?_, ?_, ?_, ?_, ?_, ?_⟩
    all_goals first | (rw [Lib.cell_of_heap l1]; rfl) | (rw [Lib.cell_of_heap l2]; rfl)
  have hsz : w1.heap.size = w.heap.size + 1 + 1 := by rw [hw1, World.size_alloc, World.size_alloc]
  have SS := Lib.hid (SW.out w1.drew (Below.refl _ _).drew)
  have SD : Hid (∀ o : Obj, (w1.alloc o).drew.cell? ⟨w.heap.size, 0, none⟩ = some (.int .i64 au) ∧ (w1.alloc o).drew.cell? ⟨w.heap.size, 1, none⟩ = some (.int .i64 av) ∧ (w1.alloc o).drew.cell? ⟨w.heap.size, 2, none⟩ = some (.int .u64 aw) ∧ (w1.alloc o).drew.cell? ⟨w.heap.size + 1, 0, none⟩ = some (.int .i64 bu) ∧ (w1.alloc o).drew.cell? ⟨w.heap.size + 1, 1, none⟩ = some (.int .i64 bv) ∧ (w1.alloc o).drew.cell? ⟨w.heap.size + 1, 2, none⟩ = some (.int .u64 bw)) := Lib.hid fun o => SW.out _ ((Below.refl _ _).alloc (Nat.le_refl _) o).drew
  have OR : Hid (Calls Tryz.prog 41 #[.slice (some ⟨w1.heap.size, 0, none⟩) 3 3] (w1.alloc (.cells #[.int .i64 x, .int .i64 y, .int .i64 z] 3)).drew fun e w' => e = .returned (.int .i64 (orI [x, y, z])) ∧ (w1.alloc (.cells #[.int .i64 x, .int .i64 y, .int .i64 z] 3)).drew = w') := Lib.hid (or41 (some ⟨w1.heap.size, 0, none⟩) 3 3 [x, y, z] _ rfl (fun _ => ⟨w1.heap.size, 0, rfl, fun j u hu => by
    show (w1.alloc _).cell? _ = _
    rw [World.cell?_alloc_new, Nat.zero_add]; simpa using hu⟩) (by simp))
  rw [hsz] at OR
  go_enter Tryz.func25, Tryz.ntmps25
  go_upto_region 1 with (fail)
  rw [← hw1]
  clear hw1 SW
  go_region_held3 (fun W => W.cell? ⟨w.heap.size, 0, none⟩ = some (.int .i64 au) ∧ W.cell? ⟨w.heap.size, 1, none⟩ = some (.int .i64 av) ∧ W.cell? ⟨w.heap.size, 2, none⟩ = some (.int .u64 aw) ∧ W.cell? ⟨w.heap.size + 1, 0, none⟩ = some (.int .i64 bu) ∧ W.cell? ⟨w.heap.size + 1, 1, none⟩ = some (.int .i64 bv) ∧ W.cell? ⟨w.heap.size + 1, 2, none⟩ = some (.int .u64 bw))
    (first | (with_reducible exact SS.out) | (with_reducible exact SD.out _) | (with_reducible assumption))
    (first
      | (go_at_call 42; ((with_reducible refine (C1.out _).mono ?_); rintro e w' ⟨rfl, rfl⟩))
      | (go_at_call 42; ((with_reducible refine (C2.out _).mono ?_); rintro e w' ⟨rfl, rfl⟩))
      | (go_at_call 43; ((with_reducible refine (C3.out _).mono ?_); rintro e w' ⟨rfl, rfl⟩))
      | (go_at_call 41; ((with_reducible refine OR.out.mono ?_); rintro e w' ⟨rfl, rfl⟩)))
  all_goals go_wp2
  all_goals go_ret
  all_goals exact ⟨rfl, (G1.out.alloc _).drew⟩
end Go.Proofs.YtpdfmfkoopdfgaaGreatDoor
end
section
namespace Go.Proofs.YtpdfmfkoopdfgaaGreatDoor
set_option maxRecDepth 100000
open Go.RowKit Aid Gr Hs LinP HeapP

def lexC : List Arc → List Arc → Int
  | [], [] => 0
  | [], _ :: _ => -1
  | _ :: _, [] => 1
  | a :: l, b :: m => if rowsC a b = 0 then lexC l m else rowsC a b
theorem call25 : ∀ args w, (callFunc 25 args).run Tryz.prog w = .ok (.enter 25 args) w := fun args w => Gr.callIn Tryz.func25 (by kernel_rfl) rfl args w
set_option maxHeartbeats 4000000 in
theorem lex_any (A : Option Addr) (c nl : Nat) (l : List Arc) (B : Option Addr) (d nm : Nat) (m : List Arc) (w : World) (hnl : nl = l.length) (hnm : nm = m.length) (hl : Arcs w A l) (hm : Arcs w B m) (h1 : l.length ≤ 100000) (h2 : m.length ≤ 100000) :
    Calls Tryz.prog 24 #[.slice A nl c, .slice B nm d, .func (.func 25) #[] #[]] w fun e w' => e = .returned (.int .i64 (lexC l m)) ∧ Grw w w' := by
  have HNL := Lib.hid hnl
  have HNM := Lib.hid hnm
  have HL := Lib.hid hl
  have HM := Lib.hid hm
  have nb : nl ≤ 100000 := by omega
  have mb : nm ≤ 100000 := by omega
  have e25 := call25
  clear hnl hnm hl hm h1 h2
  go_enter Tryz.func24, Tryz.ntmps24
  go_wp2
  go_loopw [13] (fun i wr => ∃ k : Nat, k ≤ nl ∧ k ≤ nm ∧ i = .int .i64 k ∧ lexC l m = lexC (l.drop k) (m.drop k) ∧ Grw w wr) (fun i _ => nl - (intOf i).toNat)
  case atStart => exact ⟨0, Nat.zero_le _, Nat.zero_le _, rfl, rfl, Grw.refl _⟩
  case round =>
    obtain ⟨k, hk, hk2, rfl, hlex, hg⟩ := hrel
    have HX := Lib.hid hlex
    have HG := Lib.hid hg
    clear hlex hg
    have k0 : (0 : Int) ≤ (k : Int) := by omega
    have kz : IntKind.i64.wrap ((k : Int) + 1) = (k : Int) + 1 := by rw [IntKind.wrap_i64] <;> omega
    by_cases hlt : k < nl
    · have k1 : (k : Int) < (nl : Int) := by omega
      have hkl : k < l.length := by rw [← HNL.out]; exact hlt
      obtain ⟨ab, ao, hA, ha⟩ := (HL.out.below HG.out.below (Nat.le_refl _)).2.2 (by omega)
      subst hA
      obtain ⟨a0, a1, a2⟩ := ha k l[k] (List.getElem?_eq_getElem hkl)
      clear ha
      have hdl : l.drop k = l[k] :: l.drop (k + 1) := List.drop_eq_getElem_cons hkl
      generalize l[k] = a at a0 a1 a2 hdl
      by_cases hlt2 : k < nm
      · have k2 : ¬ ((nm : Int) ≤ (k : Int)) := by omega
        have k3 : (k : Int) < (nm : Int) := by omega
        have hkm : k < m.length := by rw [← HNM.out]; exact hlt2
        obtain ⟨bb, bo, hB, hb⟩ := (HM.out.below HG.out.below (Nat.le_refl _)).2.2 (by omega)
        subst hB
        obtain ⟨b0, b1, b2⟩ := hb k m[k] (List.getElem?_eq_getElem hkm)
        clear hb
        have hdm : m.drop k = m[k] :: m.drop (k + 1) := List.drop_eq_getElem_cons hkm
        generalize m[k] = b at b0 b1 b2 hdm
        have HS : Hid (lexC l m = if rowsC a b = 0 then lexC (l.drop (k + 1)) (m.drop (k + 1)) else rowsC a b) := Lib.hid (by rw [HX.out, hdl, hdm, lexC])
        have BA := (Below.refl wr.heap.size wr).alloc (Nat.le_refl _) (.cells #[.int .i64 a.u, .int .i64 a.v, .int .u64 a.w] 60)
        have c0 := cellL b0 BA
        have c1 := cellL b1 BA
        have c2 := cellL b2 BA
        have GA : Hid (Grw w ((wr.alloc (.cells #[.int .i64 a.u, .int .i64 a.v, .int .u64 a.w] 60)).alloc (.cells #[.int .i64 b.u, .int .i64 b.v, .int .u64 b.w] 60))) := Lib.hid ((HG.out.alloc _).alloc _)
        have RC := Lib.hid (fun W => rows_any a b W)
        have x0 : ((wr.alloc (.cells #[.int .i64 a.u, .int .i64 a.v, .int .u64 a.w] 60)).alloc (.cells #[.int .i64 b.u, .int .i64 b.v, .int .u64 b.w] 60)).heap[wr.heap.size]? = some (.cells #[.int .i64 a.u, .int .i64 a.v, .int .u64 a.w] 60 (0, 0)) := heapL (heap_alloc_new wr _) ((Below.refl _ _).alloc (Nat.le_refl _) _)
        have y0 : ((wr.alloc (.cells #[.int .i64 a.u, .int .i64 a.v, .int .u64 a.w] 60)).alloc (.cells #[.int .i64 b.u, .int .i64 b.v, .int .u64 b.w] 60)).cell? ⟨wr.heap.size, 0, none⟩ = some (.int .i64 a.u) := by rw [Lib.cell_of_heap x0]; rfl
        have y1 : ((wr.alloc (.cells #[.int .i64 a.u, .int .i64 a.v, .int .u64 a.w] 60)).alloc (.cells #[.int .i64 b.u, .int .i64 b.v, .int .u64 b.w] 60)).cell? ⟨wr.heap.size, 1, none⟩ = some (.int .i64 a.v) := by rw [Lib.cell_of_heap x0]; rfl
        have y2 : ((wr.alloc (.cells #[.int .i64 a.u, .int .i64 a.v, .int .u64 a.w] 60)).alloc (.cells #[.int .i64 b.u, .int .i64 b.v, .int .u64 b.w] 60)).cell? ⟨wr.heap.size, 2, none⟩ = some (.int .u64 a.w) := by rw [Lib.cell_of_heap x0]; rfl
        clear x0 hdl hdm hkl hkm BA
        unfold Arc.val at RC
        generalize rowsC a b = r at RC HS
        by_cases hr : r = 0
        · subst hr
          rw [if_pos rfl] at HS
          go_wp2_with (go_at_fn 25; ((with_reducible refine (RC.out _).mono ?_); rintro e w2 ⟨rfl, hg2⟩; have HG2 := Lib.hid (GA.out.trans hg2); clear hg2))
          go_roundw
          case rel => exact ⟨k + 1, by omega, by omega, by go_num, HS.out, HG2.out⟩
          case measure => simp [intOf]; omega
        · rw [if_neg hr] at HS
          have f0 : (r != 0) = true := by simpa using hr
          go_wp2_with (go_at_fn 25; ((with_reducible refine (RC.out _).mono ?_); rintro e w2 ⟨rfl, hg2⟩; have HG2 := Lib.hid (GA.out.trans hg2); clear hg2))
          go_ret
          exact ⟨by rw [HS.out]; rfl, HG2.out⟩
      · have k2 : (nm : Int) ≤ (k : Int) := by omega
        have hdm : m.drop k = [] := List.drop_eq_nil_of_le (by rw [← HNM.out]; omega)
        have HS : Hid (lexC l m = 1) := Lib.hid (by rw [HX.out, hdl, hdm, lexC])
        have GA : Hid (Grw w (wr.alloc (.cells #[.int .i64 a.u, .int .i64 a.v, .int .u64 a.w] 60))) := Lib.hid (HG.out.alloc _)
        clear hdl hdm
        go_wp2
        go_ret
        exact ⟨by rw [HS.out]; rfl, GA.out⟩
    · obtain rfl : k = nl := by omega
      have hdl : l.drop k = [] := List.drop_eq_nil_of_le (by rw [← HNL.out]; exact Nat.le_refl _)
      by_cases hlt2 : k < nm
      · have k2 : (k : Int) < (nm : Int) := by omega
        have hkm : k < m.length := by rw [← HNM.out]; exact hlt2
        have HS : Hid (lexC l m = -1) := Lib.hid (by rw [HX.out, hdl, List.drop_eq_getElem_cons hkm, lexC])
        clear hdl hkm
        go_wp2
        go_ret
        exact ⟨by rw [HS.out]; rfl, HG.out⟩
      · have k2 : ¬ ((k : Int) < (nm : Int)) := by omega
        have hdm : m.drop k = [] := List.drop_eq_nil_of_le (by rw [← HNM.out]; omega)
        have HS : Hid (lexC l m = 0) := Lib.hid (by rw [HX.out, hdl, hdm, lexC])
        clear hdl hdm
        go_wp2
        go_ret
        exact ⟨by rw [HS.out]; rfl, HG.out⟩
theorem ends1_any (A : Option Addr) (c nl : Nat) (l : List Arc) (B : Option Addr) (d nm : Nat) (m : List Arc) (w : World) (hnl : nl = l.length) (hnm : nm = m.length) (hl : Arcs w A l) (hm : Arcs w B m) (h1 : l.length ≤ 100000) (h2 : m.length ≤ 100000) :
    Calls Tryz.prog 23 #[.slice A nl c, .slice B nm d] w fun e w' => e = .returned (.int .i64 (lexC l m)) ∧ Grw w w' := by
  have D := Lib.hid (lex_any A c nl l B d nm m w hnl hnm hl hm h1 h2)
  clear hnl hnm hl hm h1 h2
  go_enter Tryz.func23, Tryz.ntmps23
  go_wp2_with (go_at_call 24; ((with_reducible refine D.out.mono ?_); rintro e w2 ⟨rfl, hg2⟩; have HG2 := Lib.hid hg2; clear hg2))
  go_ret
  exact ⟨rfl, HG2.out⟩
end Go.Proofs.YtpdfmfkoopdfgaaGreatDoor
end
section
namespace Go.Proofs.YtpdfmfkoopdfgaaGreatDoor
set_option maxRecDepth 100000
open Go.RowKit Aid Gr Hs LinP HeapP

theorem cmp_neg (x y : Int) : Lib.compareInt x y < 0 ↔ x < y := by unfold Lib.compareInt; split <;> (try split) <;> omega
theorem cmp_zero (x y : Int) : Lib.compareInt x y = 0 ↔ x = y := by unfold Lib.compareInt; split <;> (try split) <;> omega
theorem cmp_pos (x y : Int) : 0 < Lib.compareInt x y ↔ y < x := by unfold Lib.compareInt; split <;> (try split) <;> omega
/-- Is a row ahead of another one? -/
def RowLt (a b : Arc) : Prop := a.u < b.u ∨ (a.u = b.u ∧ (a.v < b.v ∨ (a.v = b.v ∧ a.w < b.w)))
theorem rowsC_cases (a b : Arc) : (rowsC a b < 0 ∧ RowLt a b) ∨ (rowsC a b = 0 ∧ a.u = b.u ∧ a.v = b.v ∧ a.w = b.w) ∨ (0 < rowsC a b ∧ RowLt b a) := by
  have h1 := cmp_neg a.u b.u; have h2 := cmp_zero a.u b.u; have h3 := cmp_pos a.u b.u
  have i1 := cmp_neg a.v b.v; have i2 := cmp_zero a.v b.v; have i3 := cmp_pos a.v b.v
  have j1 := cmp_neg a.w b.w; have j2 := cmp_zero a.w b.w; have j3 := cmp_pos a.w b.w
  unfold rowsC RowLt orI orI orI orI
  generalize Lib.compareInt a.u b.u = x at *
  generalize Lib.compareInt a.v b.v = y at *
  generalize Lib.compareInt a.w b.w = z at *
  split
  · split
    · split <;> omega
    · omega
  · omega
theorem arc_eq {a b : Arc} (h1 : a.u = b.u) (h2 : a.v = b.v) (h3 : a.w = b.w) : a = b := by
  cases a; cases b; simp_all
def LexLt : List Arc → List Arc → Prop
  | [], [] => False
  | [], _ :: _ => True
  | _ :: _, [] => False
  | a :: l, b :: m => RowLt a b ∨ (a = b ∧ LexLt l m)
theorem lexC_cases : ∀ l m : List Arc, (lexC l m < 0 ∧ LexLt l m) ∨ (lexC l m = 0 ∧ l = m) ∨ (0 < lexC l m ∧ LexLt m l)
  | [], [] => .inr (.inl ⟨rfl, rfl⟩)
  | [], b :: m => .inl ⟨by rw [lexC]; decide, trivial⟩
  | a :: l, [] => .inr (.inr ⟨by rw [lexC]; decide, trivial⟩)
  | a :: l, b :: m => by
    have ih := lexC_cases l m
    rw [lexC]
    rcases rowsC_cases a b with ⟨h, hl⟩ | ⟨h, h1, h2, h3⟩ | ⟨h, hl⟩
    · rw [if_neg (by omega)]
      exact .inl ⟨h, .inl hl⟩
    · rw [if_pos h]
      have e := arc_eq h1 h2 h3
      subst e
      rcases ih with ⟨h4, h5⟩ | ⟨h4, h5⟩ | ⟨h4, h5⟩
      · exact .inl ⟨h4, .inr ⟨rfl, h5⟩⟩
      · exact .inr (.inl ⟨h4, by rw [h5]⟩)
      · exact .inr (.inr ⟨h4, .inr ⟨rfl, h5⟩⟩)
    · rw [if_neg (by omega)]
      exact .inr (.inr ⟨h, .inl hl⟩)
theorem RowLt.irrefl (a : Arc) : ¬ RowLt a a := by unfold RowLt; omega
theorem RowLt.trans {a b c : Arc} (h : RowLt a b) (k : RowLt b c) : RowLt a c := by unfold RowLt at *; omega
theorem LexLt.irrefl : ∀ l : List Arc, ¬ LexLt l l
  | [], h => h
  | a :: l, h => by
    rcases h with h | ⟨_, h⟩
    · exact RowLt.irrefl a h
    · exact LexLt.irrefl l h
theorem LexLt.trans : ∀ {l m k : List Arc}, LexLt l m → LexLt m k → LexLt l k
  | [], [], _, h, _ => h.elim
  | [], _ :: _, [], _, h => h.elim
  | [], _ :: _, _ :: _, _, _ => trivial
  | _ :: _, [], _, h, _ => h.elim
  | _ :: _, _ :: _, [], _, h => h.elim
  | a :: l, b :: m, c :: k, h1, h2 => by
    rcases h1 with h1 | ⟨e1, h1⟩
    · rcases h2 with h2 | ⟨e2, h2⟩
      · exact .inl (h1.trans h2)
      · subst e2; exact .inl h1
    · subst e1
      rcases h2 with h2 | ⟨e2, h2⟩
      · exact .inl h2
      · exact .inr ⟨e2, LexLt.trans h1 h2⟩
theorem lexC_neg (l m : List Arc) : lexC l m < 0 ↔ LexLt l m := by
  constructor
  · intro h
    rcases lexC_cases l m with ⟨_, h2⟩ | ⟨h1, _⟩ | ⟨h1, _⟩
    · exact h2
    · omega
    · omega
  · intro h
    rcases lexC_cases l m with ⟨h1, _⟩ | ⟨_, h2⟩ | ⟨_, h2⟩
    · exact h1
    · subst h2; exact absurd h (LexLt.irrefl _)
    · exact absurd (h.trans h2) (LexLt.irrefl _)
/-- A slice that holds a graph. -/
structure GSl where
  A : Option Addr
  c : Nat
  l : List Arc
def GSl.val (x : GSl) : Value := .slice x.A x.l.length x.c
theorem swo_lex {α : Type} (f : α → List Arc) : Go.Sort.SWO (Go.Proofs.ltOf fun x y : α => lexC (f x) (f y)) := by
  have h : ∀ x y : α, Go.Proofs.ltOf (fun x y : α => lexC (f x) (f y)) x y = true ↔ LexLt (f x) (f y) := fun x y => by
    unfold Go.Proofs.ltOf
    rw [decide_eq_true_iff]; exact lexC_neg _ _
  have hn : ∀ x y : α, Go.Proofs.ltOf (fun x y : α => lexC (f x) (f y)) x y = false ↔ ¬ LexLt (f x) (f y) := fun x y => by
    rw [← h x y]; simp
  refine ⟨fun x => (hn x x).2 (LexLt.irrefl _), fun x y z h1 h2 => (h x z).2 (((h x y).1 h1).trans ((h y z).1 h2)), fun x y z h1 h2 => (hn x z).2 fun h3 => ?_⟩
  have n1 := (hn x y).1 h1
  have n2 := (hn y z).1 h2
  rcases lexC_cases (f x) (f y) with ⟨_, q⟩ | ⟨_, q⟩ | ⟨_, q⟩
  · exact n1 q
  · rw [q] at h3; exact n2 h3
  · exact n2 (q.trans h3)
end Go.Proofs.YtpdfmfkoopdfgaaGreatDoor
end
