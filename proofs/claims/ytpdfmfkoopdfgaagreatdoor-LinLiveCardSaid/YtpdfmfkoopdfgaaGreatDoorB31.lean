/- HKeys, HPts, HPoints, HMem, HFlat. -/
import Derived.Test.YtpdfmfkoopdfgaaGreatDoorB29
import Derived.Test.YtpdfmfkoopdfgaaGreatDoorB30
import Derived.Test.YtpdfmfkoopdfgaaGreatDoorB10
set_option linter.unusedVariables false
set_option linter.unusedSimpArgs false
section
namespace Go.Proofs.YtpdfmfkoopdfgaaGreatDoor.Hs
set_option maxRecDepth 100000
open Go.RowKit Aid

theorem int_info : (Tryz.prog.info? 3).map (fun i => (i.zero, i.size, i.bytes)) = some (some (.int .i64 0), 1, 8) := by kernel_rfl
theorem one_sl (w : World) (v : Value) (t : TypeId) : Sl (w.alloc (.cells #[v] t)) (some ⟨w.heap.size, 0, none⟩) [v] := fun _ => ⟨_, _, rfl, fun j u hu => by
  cases j with
  | zero => simp at hu; subst hu; rw [World.cell?_alloc_new]; rfl
  | succ j => simp at hu⟩
theorem own_any {w : World} {base : Nat} {e : TypeId} {size : Nat} {v : Value} {n : Nat} {xs : List Value} (h : w.ownsRow base e size v n xs) : ∃ A c, v = .slice A n c := by
  rcases h.2 with ⟨rfl, rfl⟩ | ⟨g, cap, cur, rfl, _⟩
  · exact ⟨none, 0, rfl⟩
  · exact ⟨_, _, rfl⟩
theorem row_below {B : Nat} {w w' : World} {base : Nat} {e : TypeId} {size : Nat} {v : Value} {n : Nat} {xs : List Value} (h : w.ownsRow base e size v n xs) (hb : Below B w w') (hB : w.heap.size ≤ B) : w'.ownsRow base e size v n xs := by
  rcases h.2 with h0 | ⟨g, cap, cur, hv, hg, hbl, r⟩
  · exact ⟨h.1, .inl h0⟩
  · have hlt : g < w.heap.size := (Array.getElem?_eq_some_iff.1 hbl).1
    exact ⟨h.1, .inr ⟨g, cap, cur, hv, hg, by rw [hb.block g (by omega)]; exact hbl, r⟩⟩
theorem grown_cell {w w' : World} {row : Option Nat} {b o : Nat} (hg : w.grownBy w' row) (hp : b < w.heap.size) (hr : row ≠ some b) : w'.cell? ⟨b, o, none⟩ = w.cell? ⟨b, o, none⟩ := by
  unfold World.cell?
  simp only []
  rw [hg.block b hp (fun e => hr e.symm)]
/-- The vertices that calls name, in their order. -/
def namesOf (l : List Cl) : List Int := l.flatMap fun a => if edgeB a.k then [a.u, a.v] else [a.u]
def keysOf (l : List Cl) : List Int := uniq (namesOf l)
theorem names_next {l : List Cl} {k : Nat} (h : k < l.length) : namesOf (l.take (k + 1)) = namesOf (l.take k) ++ (if edgeB l[k].k then [l[k].u, l[k].v] else [l[k].u]) := by
  unfold namesOf
  rw [List.take_succ_eq_append_getElem h, List.flatMap_append]
  simp
theorem names_le (l : List Cl) : (namesOf l).length ≤ 2 * l.length := by
  unfold namesOf
  induction l with
  | nil => simp
  | cons a l ih => rw [List.flatMap_cons, List.length_append, List.length_cons]; split <;> simp only [List.length_cons, List.length_nil] <;> omega
set_option maxHeartbeats 8000000 in
set_option maxRecDepth 100000 in
theorem keys_any (A : Option Addr) (c n : Nat) (l : List Cl) (w : World) (hn : n = l.length) (hl : Cls w A l) (h40 : l.length ≤ 1000) :
    Calls Tryz.prog 53 #[.slice A n c] w fun e w' => ∃ B d, e = .returned (.slice B (keysOf l).length d) ∧ w'.ownsRow w.heap.size 3 1 (.slice B (keysOf l).length d) (keysOf l).length ((keysOf l).map (Value.int .i64)) ∧ Below w.heap.size w w' := by
  subst hn
  have HL := Lib.hid hl
  clear hl
  obtain ⟨i0, hi0, hz0, hz1, hz2⟩ := info_parts int_info
  have hone : Hid (∀ z : Int, ∀ u ∈ [Value.int .i64 z], u.oneCell' = true) := fun z u hu => by rw [List.mem_singleton.1 hu]; rfl
  go_enter Tryz.func53, Tryz.ntmps53
  go_wp2
  go_loopw [3, 8] (fun v j wr => ∃ k : Nat, k ≤ l.length ∧ j = .int .i64 k ∧ wr.ownsRow w.heap.size 3 1 v (namesOf (l.take k)).length ((namesOf (l.take k)).map (Value.int .i64)) ∧ Below w.heap.size w wr) (fun _ j _ => l.length - (intOf j).toNat)
  case atStart => exact ⟨0, Nat.zero_le _, rfl, World.ownsRow_nil _ _ _ _, Below.refl _ _⟩
  case round =>
    obtain ⟨k, hk, rfl, ho, hb⟩ := hrel
    obtain ⟨T, tc, hT⟩ := own_any ho
    subst hT
    have HO := Lib.hid ho
    have HB := Lib.hid hb
    clear ho hb
    by_cases hlt : k < l.length
    · obtain ⟨b, off, hA, hat⟩ := (HL.out.below HB.out (Nat.le_refl _)).get (List.getElem?_eq_getElem hlt)
      obtain ⟨c0, c1, c2, c3, c4, c5, c6, c7, c8, c9, c10, c11, c12⟩ := hat
      subst hA
      have HN := Lib.hid (names_next hlt)
      have hle := Lib.hid (names_le (l.take k))
      have hle2 := Lib.hid (show (l.take k).length ≤ k from by rw [List.length_take]; omega)
      generalize namesOf (l.take k) = nr at HO HN hle ⊢
      generalize l[k] = a at c0 c1 c2 c3 c4 c5 c6 c7 c8 c9 c10 c11 c12 HN
      have k0 : (0 : Int) ≤ (k : Int) := by omega
      have k1 : (k : Int) < (l.length : Int) := by omega
      have n3 : IntKind.i64.wrap ((k : Int) + 1) = (k : Int) + 1 := by rw [IntKind.wrap_i64] <;> omega
      have b1 := hle.out
      have b2 := hle2.out
      have m1 : nr.length + 1 ≤ maxLen := by unfold maxLen; omega
      have y1 : (nr.length + 1) * 8 ≤ 140737488355328 := by omega
      have m2 : nr.length + 1 + 1 ≤ maxLen := by unfold maxLen; omega
      have y2 : (nr.length + 1 + 1) * 8 ≤ 140737488355328 := by omega
      clear b1 b2
      have HA := Lib.hid (HB.out.alloc HB.out.size (bx a))
      have HA2 := Lib.hid (HA.out.alloc HA.out.size (.cells #[.int .i64 a.u] 3))
      have HOA := Lib.hid ((HO.out.alloc (bx a)).alloc (.cells #[.int .i64 a.u] 3))
      have HS1 := Lib.hid (show Sl ((wr.alloc (bx a)).alloc (.cells #[.int .i64 a.u] 3)) (some ⟨wr.heap.size + 1, 0, none⟩) [.int .i64 a.u] from by
        have := one_sl (wr.alloc (bx a)) (.int .i64 a.u) 3
        rwa [World.size_alloc] at this)
      have AB := Lib.hid ((at_box wr a).below ((Below.refl _ _).alloc (Nat.le_refl _) (.cells #[.int .i64 a.u] 3)) (Nat.le_refl _))
      have hbs : Hid (wr.heap.size < ((wr.alloc (bx a)).alloc (.cells #[.int .i64 a.u] 3)).heap.size) := Lib.hid (by rw [World.size_alloc, World.size_alloc]; omega)
      have hne : Hid ((Value.slice T nr.length tc).ownBlock ≠ some wr.heap.size) := Lib.hid (fun e => by have := (HO.out.lt _ e).2; omega)
      cases he : edgeB a.k
      · have HE : Hid (∀ W, Calls Tryz.prog 81 #[.int .i64 a.k] W fun e w' => e = .returned (.bool false) ∧ W = w') := Lib.hid fun W => by have := edge_any a.k W; rw [he] at this; exact this
        rw [he] at HN
        clear he
        unfold bx at HA HA2 HOA HS1 AB hbs
        go_wp2_with (first
          | (at_builtin
             refine wpList_append_sl _ rfl (.tmp 12) (.tmp 16) 33 rfl w.heap.size 3 i0 _ 1 8 Tryz.underlying33 hi0 hz0 hz1 hz2 rfl Nat.one_pos _ nr.length _ rfl HOA.out (some ⟨wr.heap.size + 1, 0, none⟩) 1 1 [.int .i64 a.u] rfl rfl HS1.out (hone.out _) m1 y1 HA2.out.size (nr.length + 1) rfl ?_
             intro A5 c5 w5 hown5 hb5 hg5 _
             have HO5 := Lib.hid hown5
             have HB5 := Lib.hid (HA2.out.trans hb5)
             have g1 := (grown_cell (o := 1) hg5 hbs.out hne.out).trans AB.out.2.1
             clear hown5 hb5 hg5)
          | (go_at_call 81; ((with_reducible refine (HE.out _).mono ?_); rintro e w' ⟨rfl, rfl⟩)))
        go_roundw
        case rel => exact ⟨k + 1, by omega, by go_num, by rw [HN.out]; simpa using HO5.out, HB5.out⟩
        case measure => simp [intOf]; omega
      · have HE : Hid (∀ W, Calls Tryz.prog 81 #[.int .i64 a.k] W fun e w' => e = .returned (.bool true) ∧ W = w') := Lib.hid fun W => by have := edge_any a.k W; rw [he] at this; exact this
        rw [he] at HN
        clear he
        unfold bx at HA HA2 HOA HS1 AB hbs
        go_wp2_with (first
          | (at_builtin
             refine wpList_append_sl _ rfl (.tmp 12) (.tmp 16) 33 rfl w.heap.size 3 i0 _ 1 8 Tryz.underlying33 hi0 hz0 hz1 hz2 rfl Nat.one_pos _ nr.length _ rfl HOA.out (some ⟨wr.heap.size + 1, 0, none⟩) 1 1 [.int .i64 a.u] rfl rfl HS1.out (hone.out _) m1 y1 HA2.out.size (nr.length + 1) rfl ?_
             intro A5 c5 w5 hown5 hb5 hg5 _
             have HO5 := Lib.hid hown5
             have HB5 := Lib.hid (HA2.out.trans hb5)
             have g1 := (grown_cell (o := 1) hg5 hbs.out hne.out).trans AB.out.2.1
             have g3 := (grown_cell (o := 3) hg5 hbs.out hne.out).trans AB.out.2.2.2.1
             have HS2 := Lib.hid (one_sl w5 (.int .i64 a.v) 3)
             have HB6 := Lib.hid (HB5.out.alloc HB5.out.size (.cells #[.int .i64 a.v] 3))
             have HO6 := Lib.hid (HO5.out.alloc (.cells #[.int .i64 a.v] 3))
             clear hown5 hb5 hg5)
          | (go_at_call 81; ((with_reducible refine (HE.out _).mono ?_); rintro e w' ⟨rfl, rfl⟩))
          | (at_builtin
             refine wpList_append_sl _ rfl (.tmp 22) (.tmp 26) 33 rfl w.heap.size 3 i0 _ 1 8 Tryz.underlying33 hi0 hz0 hz1 hz2 rfl Nat.one_pos _ (nr.length + 1) _ rfl HO6.out (some ⟨w5.heap.size, 0, none⟩) 1 1 [.int .i64 a.v] rfl rfl HS2.out (hone.out _) m2 y2 HB6.out.size (nr.length + 1 + 1) rfl ?_
             intro A7 c7 w7 hown7 hb7 _ _
             have HO7 := Lib.hid hown7
             have HB7 := Lib.hid (HB6.out.trans hb7)
             clear hown7 hb7))
        go_roundw
        case rel => exact ⟨k + 1, by omega, by go_num, by rw [HN.out]; simpa using HO7.out, HB7.out⟩
        case measure => simp [intOf]; omega
    · obtain rfl : k = l.length := by omega
      rw [List.take_length] at HO ⊢
      have hle := Lib.hid (names_le l)
      have DS := Lib.hid (sort_own w.heap.size T _ tc (namesOf l) wr HO.out HB.out.size (by have := hle.out; omega))
      have hsl := Lib.hid (sorted_length (namesOf l))
      go_wp2_with (first
        | (go_at_call 82; ((with_reducible refine DS.out.mono ?_); rintro e w1 ⟨rfl, ho1, hb1⟩; have HB1 := Lib.hid (HB.out.trans hb1); have D2 := Lib.hid (compact_own w.heap.size T _ tc (sorted (namesOf l)) w1 ho1 (Nat.le_trans hle.out (Nat.le_trans (Nat.mul_le_mul_left 2 h40) (by decide)))); clear ho1 hb1))
        | (go_at_call 83; ((with_reducible refine D2.out.mono ?_); rintro e w2 ⟨rfl, ho2, hb2⟩; have HO2 := Lib.hid ho2; have HB2 := Lib.hid (HB1.out.trans hb2); clear ho2 hb2)))
      go_ret
      exact ⟨_, _, rfl, HO2.out, HB2.out⟩
end Go.Proofs.YtpdfmfkoopdfgaaGreatDoor.Hs
end
section
namespace Go.Proofs.YtpdfmfkoopdfgaaGreatDoor.Hs
set_option maxRecDepth 100000
open Go.RowKit Aid

/-- A point of an open call. -/
def ptOpen (c : Cl) : Pt := ⟨c.k, c.u, c.v, c.x, 0, false, 0, 0, false, c.fr, -1, c.era, false⟩
def ptPlain (c : Cl) : Pt := ⟨c.k, c.u, c.v, c.x, c.err, c.is, c.n, c.w, false, c.fr, c.to, c.era, true⟩
def ptFirst (c : Cl) : Pt := ⟨13, c.u, 0, 0, 0, c.is, 0, 0, false, c.fr, c.to, c.era, true⟩
def ptNear (c : Cl) (key : Int) : Pt := ⟨16, c.u, key, 0, 0, c.list.contains key, 0, 0, true, c.fr, c.to, c.era, true⟩
def nears (c : Cl) (keys : List Int) : List Pt := (keys.filter isV).map (ptNear c)
def ptsOf (c : Cl) (keys : List Int) : List Pt :=
  if (openB c && asksB c.k) || idleB c then [] else if openB c then [ptOpen c] else if c.k ≠ 17 then [ptPlain c] else ptFirst c :: (if c.is then nears c keys else [])
/-- What is handed back: a slice of points, wherever it lies. -/
def PtsPost (ps : List Pt) (w : World) (e : Ending) (w' : World) : Prop := ∃ B d, e = .returned (.slice B ps.length d) ∧ Sl w' B (flat ps) ∧ Below w.heap.size w w'
theorem sl_new (W : World) (p : Pt) : Sl (W.alloc (pbx p)) (some ⟨W.heap.size, 0, none⟩) (flat [p]) := fun _ => ⟨_, _, rfl, fun j v hj => by
  rw [World.cell?_alloc_new]
  have : flat [p] = p.cells := by simp [flat]
  rw [this] at hj
  unfold Pt.cells at hj
  simpa using hj⟩
theorem sl_at (W : World) (p : Pt) (n : Nat) (h : W.heap.size = n) : Sl (W.alloc (pbx p)) (some ⟨n, 0, none⟩) (flat [p]) := by subst h; exact sl_new W p
/-- The box of a point, and that it may be written. -/
def PtAt (w : World) (b : Nat) (p : Pt) : Prop :=
  (w.cell? ⟨b, 0, none⟩ = some (.int .i64 p.k) ∧ w.cell? ⟨b, 1, none⟩ = some (.int .i64 p.u) ∧ w.cell? ⟨b, 2, none⟩ = some (.int .i64 p.v) ∧ w.cell? ⟨b, 3, none⟩ = some (.int .u64 p.x) ∧ w.cell? ⟨b, 4, none⟩ = some (.int .i64 p.err) ∧ w.cell? ⟨b, 5, none⟩ = some (.bool p.is) ∧ w.cell? ⟨b, 6, none⟩ = some (.int .i64 p.n) ∧ w.cell? ⟨b, 7, none⟩ = some (.int .u64 p.w) ∧ w.cell? ⟨b, 8, none⟩ = some (.slice none 0 0) ∧ w.cell? ⟨b, 9, none⟩ = some (.bool p.any) ∧ w.cell? ⟨b, 10, none⟩ = some (.int .i64 p.fr) ∧ w.cell? ⟨b, 11, none⟩ = some (.int .i64 p.to) ∧ w.cell? ⟨b, 12, none⟩ = some (.int .i64 p.era) ∧ w.cell? ⟨b, 13, none⟩ = some (.bool p.must)) ∧ ∀ o, w.frozen? ⟨b, o, none⟩ = false
theorem ptAt_new (W : World) (p : Pt) : PtAt (W.alloc (pbx p)) W.heap.size p := by
  unfold pbx
  refine ⟨⟨?_, ?_, ?_, ?_, ?_, ?_, ?_, ?_, ?_, ?_, ?_, ?_, ?_, ?_⟩, fun o => ?_⟩
  iterate 14 (first | (rw [World.cell?_alloc_new]; rfl) | skip)
  all_goals (first | (rw [World.cell?_alloc_new]; rfl) | (unfold World.frozen?; simp only []; rw [heap_alloc_new]; simp))
theorem PtAt.below {B : Nat} {w w' : World} {b : Nat} {p : Pt} (h : PtAt w b p) (hb : Below B w w') (hB : b < B) : PtAt w' b p := by
  obtain ⟨⟨h0, h1, h2, h3, h4, h5, h6, h7, h8, h9, h10, h11, h12, h13⟩, hf⟩ := h
  have t : ∀ {j : Nat} {v : Value}, w.cell? ⟨b, j, none⟩ = some v → w'.cell? ⟨b, j, none⟩ = some v := fun {j} {_} h => (hb.cell (p := ⟨b, j, none⟩) hB).trans h
  refine ⟨⟨t h0, t h1, t h2, t h3, t h4, t h5, t h6, t h7, t h8, t h9, t h10, t h11, t h12, t h13⟩, fun o => ?_⟩
  have := hf o
  unfold World.frozen? at this ⊢
  simp only [] at this ⊢
  rw [hb.block b hB]; exact this
/-- The world behind regions 0 to 2. -/
abbrev w2 (w : World) (c : Cl) : World := (w.alloc (bx c)).alloc (pbx (ptPlain c))
theorem w2_ok (w : World) (c : Cl) : At (w2 w c) w.heap.size 0 c ∧ PtAt (w2 w c) (w.heap.size + 1) (ptPlain c) ∧ Below w.heap.size w (w2 w c) ∧ (w2 w c).heap.size = w.heap.size + 2 := by
  refine ⟨(at_box w c).below ((Below.refl _ _).alloc (Nat.le_refl _) _) (Nat.le_refl _), ?_, ((Below.refl _ _).alloc (Nat.le_refl _) _).alloc (by rw [World.size_alloc]; omega) _, by unfold w2; rw [World.size_alloc, World.size_alloc]⟩
  have := ptAt_new (w.alloc (bx c)) (ptPlain c)
  rwa [World.size_alloc] at this
theorem after2 {w : World} {c : Cl} : ∀ w', Below (w2 w c).heap.size (w2 w c) w' → At w' w.heap.size 0 c ∧ PtAt w' (w.heap.size + 1) (ptPlain c) ∧ Below w.heap.size w w' := fun w' h => by
  obtain ⟨h1, h2, h3, h4⟩ := w2_ok w c
  exact ⟨h1.below h (Nat.le_refl _), h2.below h (by omega), h3.trans (h.mono h3.size)⟩
theorem below_set {B : Nat} {a : World} (b : Nat) (hb : B ≤ b) : ∀ (vs : List Value) (o : Nat) {w : World}, Below B a w → Below B a (w.setCells b o vs)
  | [], _, _, h => h
  | v :: vs, o, _, h => below_set b hb vs (o + 1) (h.setCell (p := ⟨b, o, none⟩) hb v)
theorem PtAt.range {w : World} {b : Nat} {p : Pt} (h : PtAt w b p) : w.rangeAt b 0 p.cells := by
  obtain ⟨⟨h0, h1, h2, h3, h4, h5, h6, h7, h8, h9, h10, h11, h12, h13⟩, _⟩ := h
  intro j v hj
  have hlt : j < 14 := by have := (List.getElem?_eq_some_iff.1 hj).1; exact this
  rw [Nat.zero_add]
  have : j = 0 ∨ j = 1 ∨ j = 2 ∨ j = 3 ∨ j = 4 ∨ j = 5 ∨ j = 6 ∨ j = 7 ∨ j = 8 ∨ j = 9 ∨ j = 10 ∨ j = 11 ∨ j = 12 ∨ j = 13 := by omega
  rcases this with rfl | rfl | rfl | rfl | rfl | rfl | rfl | rfl | rfl | rfl | rfl | rfl | rfl | rfl <;> (unfold Pt.cells at hj; simp at hj; subst hj; assumption)
theorem PtAt.of {w : World} {b : Nat} {p : Pt} (h : w.rangeAt b 0 p.cells) (hf : ∀ o, w.frozen? ⟨b, o, none⟩ = false) : PtAt w b p :=
  ⟨⟨h 0 _ rfl, h 1 _ rfl, h 2 _ rfl, h 3 _ rfl, h 4 _ rfl, h 5 _ rfl, h 6 _ rfl, h 7 _ rfl, h 8 _ rfl, h 9 _ rfl, h 10 _ rfl, h 11 _ rfl, h 12 _ rfl, h 13 _ rfl⟩, hf⟩
theorem PtAt.set {w : World} {b : Nat} {p q : Pt} (h : PtAt w b p) (vs : List Value) (hv : q.cells = vs ++ p.cells.drop vs.length) : PtAt (w.setCells b 0 vs) b q := by
  have hr := h.range
  have hp : p.cells.length = 14 := rfl
  have hq : q.cells.length = 14 := rfl
  have hl : vs.length ≤ 14 := by
    have := congrArg List.length hv
    rw [List.length_append, List.length_drop, hq, hp] at this
    omega
  refine PtAt.of (fun j v hj => ?_) (fun o => by rw [World.frozen?_setCells]; exact h.2 o)
  rw [hv] at hj
  rcases Nat.lt_or_ge j vs.length with hlt | hge
  · rw [List.getElem?_append_left hlt, List.getElem?_eq_getElem hlt] at hj
    rw [World.cell?_setCells_in b vs 0 w (fun i hi => by
      have := hr i p.cells[i] (List.getElem?_eq_getElem (by omega))
      rw [this]; rfl) j hlt]
    exact hj
  · rw [List.getElem?_append_right hge, List.getElem?_drop] at hj
    rw [World.cell?_setCells_out b vs 0 w _ (fun _ _ => .inr (by simp only; omega))]
    exact hr j v (by rw [← hj]; congr 1; omega)
theorem At.set {w : World} {b o : Nat} {c : Cl} (h : At w b o c) (b' : Nat) (hne : b ≠ b') (vs : List Value) (o' : Nat) : At (w.setCells b' o' vs) b o c := by
  obtain ⟨h0, h1, h2, h3, h4, h5, h6, h7, h8, h9, h10, h11, h12⟩ := h
  have t : ∀ {j : Nat} {v : Value}, w.cell? ⟨b, j, none⟩ = some v → (w.setCells b' o' vs).cell? ⟨b, j, none⟩ = some v := fun {j} {_} h => (World.cell?_setCells_out b' vs o' w ⟨b, j, none⟩ (fun e => absurd e hne)).trans h
  exact ⟨t h0, t h1, t h2, t h3, t h4, t h5, t h6, t h7, t h8, t h9, t h10, t h11, t h12⟩
theorem At.keep {B : Nat} {w w' : World} {b o : Nat} {c : Cl} (h : At w b o c) (hb : Below B w w') (hB : b < B) : At w' b o c := by
  obtain ⟨h0, h1, h2, h3, h4, h5, h6, h7, h8, h9, h10, h11, h12⟩ := h
  have t : ∀ {j : Nat} {v : Value}, w.cell? ⟨b, j, none⟩ = some v → w'.cell? ⟨b, j, none⟩ = some v := fun {j} {_} h => (hb.cell (p := ⟨b, j, none⟩) hB).trans h
  exact ⟨t h0, t h1, t h2, t h3, t h4, t h5, t h6, t h7, t h8, t h9, t h10, t h11, t h12⟩
theorem own_set {base : Nat} {e : TypeId} {size n : Nat} {v : Value} {xs : List Value} (b : Nat) (hb : b < base) : ∀ (vs : List Value) (o : Nat) {w : World}, w.ownsRow base e size v n xs → (w.setCells b o vs).ownsRow base e size v n xs
  | [], _, _, h => h
  | u :: vs, o, _, h => own_set b hb vs (o + 1) (ownsRow_setCell_below h (a := ⟨b, o, none⟩) hb u)
/-- The world behind region 10. -/
theorem first_ok {w w3 : World} {c : Cl} (h : Below (w2 w c).heap.size (w2 w c) w3) :
    PtAt (w3.setCells (w.heap.size + 1) 0 [.int .i64 13, .int .i64 c.u, .int .i64 0, .int .u64 0, .int .i64 0, .bool c.is, .int .i64 0, .int .u64 0, .slice none 0 0]) (w.heap.size + 1) (ptFirst c) ∧ At (w3.setCells (w.heap.size + 1) 0 [.int .i64 13, .int .i64 c.u, .int .i64 0, .int .u64 0, .int .i64 0, .bool c.is, .int .i64 0, .int .u64 0, .slice none 0 0]) w.heap.size 0 c ∧ Below w.heap.size w (w3.setCells (w.heap.size + 1) 0 [.int .i64 13, .int .i64 c.u, .int .i64 0, .int .u64 0, .int .i64 0, .bool c.is, .int .i64 0, .int .u64 0, .slice none 0 0]) ∧ w.heap.size + 2 ≤ (w3.setCells (w.heap.size + 1) 0 [.int .i64 13, .int .i64 c.u, .int .i64 0, .int .u64 0, .int .i64 0, .bool c.is, .int .i64 0, .int .u64 0, .slice none 0 0]).heap.size := by
  obtain ⟨h1, h2, h3⟩ := after2 w3 h
  have h4 := below_set (w.heap.size + 1) (Nat.le_succ _) [.int .i64 13, .int .i64 c.u, .int .i64 0, .int .u64 0, .int .i64 0, .bool c.is, .int .i64 0, .int .u64 0, .slice none 0 0] 0 h3
  have h5 := below_set (B := 0) (w.heap.size + 1) (Nat.zero_le _) [.int .i64 13, .int .i64 c.u, .int .i64 0, .int .u64 0, .int .i64 0, .bool c.is, .int .i64 0, .int .u64 0, .slice none 0 0] 0 (Below.refl 0 w3)
  refine ⟨h2.set _ rfl, h1.set _ (by omega) _ _, h4, ?_⟩
  have := h.size
  have := (w2_ok w c).2.2.2
  have := h5.size
  omega
theorem pt_info : (Tryz.prog.info? 75).map (fun i => (i.zero, i.size, i.bytes)) = some (some (.agg #[.int .i64 0, .int .i64 0, .int .i64 0, .int .u64 0, .int .i64 0, .bool false, .int .i64 0, .int .u64 0, .slice none 0 0, .bool false, .int .i64 0, .int .i64 0, .int .i64 0, .bool false]), 14, 128) := by kernel_rfl
theorem nears_next (c : Cl) {keys : List Int} {i : Nat} (h : i < keys.length) : nears c (keys.take (i + 1)) = nears c (keys.take i) ++ (if isV keys[i] then [ptNear c keys[i]] else []) := by
  unfold nears
  rw [List.take_succ_eq_append_getElem h, List.filter_append, List.map_append]
  congr 1
  rw [List.filter_cons]
  split <;> simp_all
theorem own_new (W : World) (p : Pt) (base : Nat) (hb : base ≤ W.heap.size) : (W.alloc (pbx p)).ownsRow base 75 14 (.slice (some ⟨W.heap.size, 0, none⟩) 1 1) 1 (flat [p]) :=
  ⟨by simp [flat, Pt.cells], .inr ⟨W.heap.size, 1, _, rfl, hb, by rw [heap_alloc_new], Nat.le_refl _, by unfold maxLen; omega, rfl, rfl⟩⟩
theorem flat_one : ∀ l : List Pt, ∀ v ∈ flat l, v.oneCell' = true
  | [], v, hv => by simp [flat] at hv
  | p :: l, v, hv => by
    rw [flat, List.mem_append] at hv
    rcases hv with hv | hv
    · unfold Pt.cells at hv
      simp at hv
      rcases hv with rfl | rfl | rfl | rfl | rfl | rfl | rfl | rfl | rfl | rfl | rfl | rfl | rfl | rfl <;> rfl
    · exact flat_one l v hv
theorem own_slk {w : World} {base : Nat} {e : TypeId} {size : Nat} {A : Option Addr} {n c : Nat} {xs : List Value} (h : w.ownsRow base e size (.slice A n c) n xs) : Sl w A xs := fun hp => by
  rcases h.2 with ⟨_, h1⟩ | ⟨g, cap, cur, hv, _⟩
  · have := h.1
    rw [h1, Nat.zero_mul] at this
    omega
  · cases hv
    exact ⟨g, 0, rfl, fun j u hu => by have := h.cells (g := g) rfl j u hu; rwa [addr_add] at this⟩
theorem contains_sl (A : Option Addr) (cap : Nat) (l : List Int) (x : Int) (w : World) (h : Sl w A (l.map (Value.int .i64))) (hb : l.length ≤ 9223372036854775807) :
    Calls Tryz.prog 88 #[.slice A l.length cap, .int .i64 x] w fun e w' => e = .returned (.bool (l.contains x)) ∧ w = w' := by
  by_cases h0 : l.length = 0
  · have hl : l = [] := List.eq_nil_of_length_eq_zero h0
    subst hl
    refine (Tryz.slices_Contains_int_empty A cap x w).mono ?_
    rintro e w' ⟨rfl, rfl⟩
    exact ⟨rfl, rfl⟩
  · obtain ⟨b, off, rfl, hc⟩ := h (by rw [List.length_map]; omega)
    have := Tryz.slices_Contains_int b off l.length cap l x w (Nat.le_refl _) hb (fun j hj => hc j _ (by rw [List.getElem?_map, List.getElem?_eq_getElem hj, List.getD_eq_getElem?_getD, List.getElem?_eq_getElem hj]; rfl))
    rw [List.take_length] at this
    refine this.mono ?_
    rintro e w' ⟨rfl, rfl⟩
    exact ⟨rfl, rfl⟩
set_option maxHeartbeats 8000000 in
set_option maxRecDepth 100000 in
theorem pts_ask (c : Cl) (K : Option Addr) (m d : Nat) (keys : List Int) (w : World) (ho : openB c = true) (ha : asksB c.k = true) : Calls Tryz.prog 59 #[c.val, .slice K m d] w (PtsPost (ptsOf c keys) w) := by
  have hp : ptsOf c keys = [] := by unfold ptsOf; rw [ho, ha]; rfl
  rw [hp]
  have T := Lib.hid (@after2 w c)
  have HW := Lib.hid (w2_ok w c)
  have HO : Hid (∀ W, Calls Tryz.prog 56 #[c.val] W fun e w' => e = .returned (.bool true) ∧ Below W.heap.size W w') := Lib.hid fun W => by have := open_any c W; rw [ho] at this; exact this
  have HA : Hid (∀ W, Calls Tryz.prog 86 #[.int .i64 c.k] W fun e w' => e = .returned (.bool true) ∧ W = w') := Lib.hid fun W => by have := asks_any c.k W; rw [ha] at this; exact this
  unfold Cl.val at HO ⊢
  clear hp ho ha
  go_enter Tryz.func59, Tryz.ntmps59
  go_wp2_with (first
    | (go_at_call 56; ((with_reducible refine (HO.out _).mono ?_); rintro e w1 ⟨rfl, hb⟩; have HC1 := Lib.hid hb; obtain ⟨⟨c0, c1, c2, c3, c4, c5, c6, c7, c8, c9, c10, c11, c12⟩, ⟨⟨p0, p1, p2, p3, p4, p5, p6, p7, p8, p9, p10, p11, p12, p13⟩, pf⟩, hbw⟩ := T.out _ HC1.out; have HB1 := Lib.hid hbw; simp only [ptPlain] at p0 p1 p2 p3 p4 p5 p6 p7 p9 p10 p11 p12 p13; clear hb hbw))
    | (go_at_call 86; ((with_reducible refine (HA.out _).mono ?_); rintro e w' ⟨rfl, rfl⟩)))
  go_ret
  exact ⟨none, 0, rfl, fun h => absurd h (by simp [flat]), HB1.out⟩
set_option maxHeartbeats 8000000 in
set_option maxRecDepth 100000 in
theorem pts_idle (c : Cl) (K : Option Addr) (m d : Nat) (keys : List Int) (w : World) (ho : openB c = false) (hi : idleB c = true) : Calls Tryz.prog 59 #[c.val, .slice K m d] w (PtsPost (ptsOf c keys) w) := by
  have hp : ptsOf c keys = [] := by unfold ptsOf; rw [ho, hi]; rfl
  rw [hp]
  have T := Lib.hid (@after2 w c)
  have HW := Lib.hid (w2_ok w c)
  have HO : Hid (∀ W, Calls Tryz.prog 56 #[c.val] W fun e w' => e = .returned (.bool false) ∧ Below W.heap.size W w') := Lib.hid fun W => by have := open_any c W; rw [ho] at this; exact this
  have HI : Hid (∀ W, Calls Tryz.prog 57 #[c.val] W fun e w' => e = .returned (.bool true) ∧ Below W.heap.size W w') := Lib.hid fun W => by have := idle_any c W; rw [hi] at this; exact this
  unfold Cl.val at HO HI ⊢
  clear hp ho hi
  go_enter Tryz.func59, Tryz.ntmps59
  go_wp2_with (first
    | (go_at_call 56; ((with_reducible refine (HO.out _).mono ?_); rintro e w1 ⟨rfl, hb⟩; have HC1 := Lib.hid hb; obtain ⟨⟨c0, c1, c2, c3, c4, c5, c6, c7, c8, c9, c10, c11, c12⟩, ⟨⟨p0, p1, p2, p3, p4, p5, p6, p7, p8, p9, p10, p11, p12, p13⟩, pf⟩, hbw⟩ := T.out _ HC1.out; have HB1 := Lib.hid hbw; simp only [ptPlain] at p0 p1 p2 p3 p4 p5 p6 p7 p9 p10 p11 p12 p13; clear hb hbw))
    | (go_at_call 57; ((with_reducible refine (HI.out _).mono ?_); rintro e w2 ⟨rfl, hb⟩; clear c0 c1 c2 c3 c4 c5 c6 c7 c8 c9 c10 c11 c12 p0 p1 p2 p3 p4 p5 p6 p7 p8 p9 p10 p11 p12 p13 pf; have HC2 := Lib.hid (HC1.out.trans (hb.mono HC1.out.size)); obtain ⟨⟨c0, c1, c2, c3, c4, c5, c6, c7, c8, c9, c10, c11, c12⟩, ⟨⟨p0, p1, p2, p3, p4, p5, p6, p7, p8, p9, p10, p11, p12, p13⟩, pf⟩, hbw⟩ := T.out _ HC2.out; have HB2 := Lib.hid hbw; simp only [ptPlain] at p0 p1 p2 p3 p4 p5 p6 p7 p9 p10 p11 p12 p13; clear hb hbw)))
  go_ret
  exact ⟨none, 0, rfl, fun h => absurd h (by simp [flat]), HB2.out⟩
set_option maxHeartbeats 8000000 in
set_option maxRecDepth 100000 in
theorem pts_plain (c : Cl) (K : Option Addr) (m d : Nat) (keys : List Int) (w : World) (ho : openB c = false) (hi : idleB c = false) (hk : c.k ≠ 17) : Calls Tryz.prog 59 #[c.val, .slice K m d] w (PtsPost (ptsOf c keys) w) := by
  have hp : ptsOf c keys = [ptPlain c] := by unfold ptsOf; rw [ho, hi]; simp [hk]
  rw [hp]
  unfold PtsPost
  show Calls _ _ _ _ fun e w' => ∃ B d, e = .returned (.slice B 1 d) ∧ _ ∧ _
  have T := Lib.hid (@after2 w c)
  have HW := Lib.hid (w2_ok w c)
  have HO : Hid (∀ W, Calls Tryz.prog 56 #[c.val] W fun e w' => e = .returned (.bool false) ∧ Below W.heap.size W w') := Lib.hid fun W => by have := open_any c W; rw [ho] at this; exact this
  have HI : Hid (∀ W, Calls Tryz.prog 57 #[c.val] W fun e w' => e = .returned (.bool false) ∧ Below W.heap.size W w') := Lib.hid fun W => by have := idle_any c W; rw [hi] at this; exact this
  unfold Cl.val at HO HI ⊢
  have hk1 : (c.k == 17) = false := by simpa using hk
  clear hp ho hi
  go_enter Tryz.func59, Tryz.ntmps59
  go_wp2_with (first
    | (go_at_call 56; ((with_reducible refine (HO.out _).mono ?_); rintro e w1 ⟨rfl, hb⟩; have HC1 := Lib.hid hb; obtain ⟨⟨c0, c1, c2, c3, c4, c5, c6, c7, c8, c9, c10, c11, c12⟩, ⟨⟨p0, p1, p2, p3, p4, p5, p6, p7, p8, p9, p10, p11, p12, p13⟩, pf⟩, hbw⟩ := T.out _ HC1.out; have HB1 := Lib.hid hbw; simp only [ptPlain] at p0 p1 p2 p3 p4 p5 p6 p7 p9 p10 p11 p12 p13; clear hb hbw))
    | (go_at_call 57; ((with_reducible refine (HI.out _).mono ?_); rintro e w2 ⟨rfl, hb⟩; clear c0 c1 c2 c3 c4 c5 c6 c7 c8 c9 c10 c11 c12 p0 p1 p2 p3 p4 p5 p6 p7 p8 p9 p10 p11 p12 p13 pf; have HC2 := Lib.hid (HC1.out.trans (hb.mono HC1.out.size)); obtain ⟨⟨c0, c1, c2, c3, c4, c5, c6, c7, c8, c9, c10, c11, c12⟩, ⟨⟨p0, p1, p2, p3, p4, p5, p6, p7, p8, p9, p10, p11, p12, p13⟩, pf⟩, hbw⟩ := T.out _ HC2.out; have HB2 := Lib.hid hbw; simp only [ptPlain] at p0 p1 p2 p3 p4 p5 p6 p7 p9 p10 p11 p12 p13; clear hb hbw))
    | (go_at_call 56; ((with_reducible refine (HO.out _).mono ?_); rintro e w3 ⟨rfl, hb⟩; clear c0 c1 c2 c3 c4 c5 c6 c7 c8 c9 c10 c11 c12 p0 p1 p2 p3 p4 p5 p6 p7 p8 p9 p10 p11 p12 p13 pf; have HC3 := Lib.hid (HC2.out.trans (hb.mono HC2.out.size)); obtain ⟨⟨c0, c1, c2, c3, c4, c5, c6, c7, c8, c9, c10, c11, c12⟩, ⟨⟨p0, p1, p2, p3, p4, p5, p6, p7, p8, p9, p10, p11, p12, p13⟩, pf⟩, hbw⟩ := T.out _ HC3.out; have HB3 := Lib.hid hbw; simp only [ptPlain] at p0 p1 p2 p3 p4 p5 p6 p7 p9 p10 p11 p12 p13; clear hb hbw)))
  go_ret
  exact ⟨_, _, rfl, sl_new w3 (ptPlain c), HB3.out.alloc HB3.out.size _⟩
set_option maxHeartbeats 8000000 in
set_option maxRecDepth 100000 in
theorem pts_open (c : Cl) (K : Option Addr) (m d : Nat) (keys : List Int) (w : World) (ho : openB c = true) (ha : asksB c.k = false) (hi : idleB c = false) : Calls Tryz.prog 59 #[c.val, .slice K m d] w (PtsPost (ptsOf c keys) w) := by
  have hp : ptsOf c keys = [ptOpen c] := by unfold ptsOf; rw [ho, ha, hi]; simp
  rw [hp]
  unfold PtsPost
  show Calls _ _ _ _ fun e w' => ∃ B d, e = .returned (.slice B 1 d) ∧ _ ∧ _
  have T := Lib.hid (@after2 w c)
  have HW := Lib.hid (w2_ok w c)
  have HO : Hid (∀ W, Calls Tryz.prog 56 #[c.val] W fun e w' => e = .returned (.bool true) ∧ Below W.heap.size W w') := Lib.hid fun W => by have := open_any c W; rw [ho] at this; exact this
  have HA : Hid (∀ W, Calls Tryz.prog 86 #[.int .i64 c.k] W fun e w' => e = .returned (.bool false) ∧ W = w') := Lib.hid fun W => by have := asks_any c.k W; rw [ha] at this; exact this
  have HI : Hid (∀ W, Calls Tryz.prog 57 #[c.val] W fun e w' => e = .returned (.bool false) ∧ Below W.heap.size W w') := Lib.hid fun W => by have := idle_any c W; rw [hi] at this; exact this
  unfold Cl.val at HO HI ⊢
  clear hp ho hi ha
  go_enter Tryz.func59, Tryz.ntmps59
  go_wp2_with (first
    | (go_at_call 56; ((with_reducible refine (HO.out _).mono ?_); rintro e w1 ⟨rfl, hb⟩; have HC1 := Lib.hid hb; obtain ⟨⟨c0, c1, c2, c3, c4, c5, c6, c7, c8, c9, c10, c11, c12⟩, ⟨⟨p0, p1, p2, p3, p4, p5, p6, p7, p8, p9, p10, p11, p12, p13⟩, pf⟩, hbw⟩ := T.out _ HC1.out; have HB1 := Lib.hid hbw; simp only [ptPlain] at p0 p1 p2 p3 p4 p5 p6 p7 p9 p10 p11 p12 p13; clear hb hbw))
    | (go_at_call 86; ((with_reducible refine (HA.out _).mono ?_); rintro e w' ⟨rfl, rfl⟩))
    | (go_at_call 57; ((with_reducible refine (HI.out _).mono ?_); rintro e w2 ⟨rfl, hb⟩; clear c0 c1 c2 c3 c4 c5 c6 c7 c8 c9 c10 c11 c12 p0 p1 p2 p3 p4 p5 p6 p7 p8 p9 p10 p11 p12 p13 pf; have HC2 := Lib.hid (HC1.out.trans (hb.mono HC1.out.size)); obtain ⟨⟨c0, c1, c2, c3, c4, c5, c6, c7, c8, c9, c10, c11, c12⟩, ⟨⟨p0, p1, p2, p3, p4, p5, p6, p7, p8, p9, p10, p11, p12, p13⟩, pf⟩, hbw⟩ := T.out _ HC2.out; have HB2 := Lib.hid hbw; simp only [ptPlain] at p0 p1 p2 p3 p4 p5 p6 p7 p9 p10 p11 p12 p13; clear hb hbw))
    | (go_at_call 56; ((with_reducible refine (HO.out _).mono ?_); rintro e w3 ⟨rfl, hb⟩; clear c0 c1 c2 c3 c4 c5 c6 c7 c8 c9 c10 c11 c12 p0 p1 p2 p3 p4 p5 p6 p7 p8 p9 p10 p11 p12 p13 pf; have HC3 := Lib.hid (HC2.out.trans (hb.mono HC2.out.size)); obtain ⟨⟨c0, c1, c2, c3, c4, c5, c6, c7, c8, c9, c10, c11, c12⟩, ⟨⟨p0, p1, p2, p3, p4, p5, p6, p7, p8, p9, p10, p11, p12, p13⟩, pf⟩, hbw⟩ := T.out _ HC3.out; have HB3 := Lib.hid hbw; simp only [ptPlain] at p0 p1 p2 p3 p4 p5 p6 p7 p9 p10 p11 p12 p13; clear hb hbw)))
  have HS := Lib.hid ((((((((HB3.out).setCell (p := ⟨w.heap.size + 1, 4, none⟩) (Nat.le_succ _) (.int .i64 0)).setCell (p := ⟨w.heap.size + 1, 5, none⟩) (Nat.le_succ _) (.bool false)).setCell (p := ⟨w.heap.size + 1, 6, none⟩) (Nat.le_succ _) (.int .i64 0)).setCell (p := ⟨w.heap.size + 1, 7, none⟩) (Nat.le_succ _) (.int .u64 0)).setCell (p := ⟨w.heap.size + 1, 8, none⟩) (Nat.le_succ _) (.slice none 0 0)).setCell (p := ⟨w.heap.size + 1, 11, none⟩) (Nat.le_succ _) (.int .i64 (-1))).setCell (p := ⟨w.heap.size + 1, 13, none⟩) (Nat.le_succ _) (.bool false))
  have hsz := Lib.hid (show (((((((w3.setCell ⟨w.heap.size + 1, 4, none⟩ (.int .i64 0)).setCell ⟨w.heap.size + 1, 5, none⟩ (.bool false)).setCell ⟨w.heap.size + 1, 6, none⟩ (.int .i64 0)).setCell ⟨w.heap.size + 1, 7, none⟩ (.int .u64 0)).setCell ⟨w.heap.size + 1, 8, none⟩ (.slice none 0 0)).setCell ⟨w.heap.size + 1, 11, none⟩ (.int .i64 (-1))).setCell ⟨w.heap.size + 1, 13, none⟩ (.bool false)).heap.size = w3.heap.size from by simp only [World.setCell, Array.size_modify])
  have HZ := Lib.hid (sl_at _ (ptOpen c) _ hsz.out)
  have HT := Lib.hid (HS.out.alloc HS.out.size (pbx (ptOpen c)))
  unfold pbx ptOpen at HZ HT
  simp only at HZ HT
  generalize (((((((w3.setCell ⟨w.heap.size + 1, 4, none⟩ (.int .i64 0)).setCell ⟨w.heap.size + 1, 5, none⟩ (.bool false)).setCell ⟨w.heap.size + 1, 6, none⟩ (.int .i64 0)).setCell ⟨w.heap.size + 1, 7, none⟩ (.int .u64 0)).setCell ⟨w.heap.size + 1, 8, none⟩ (.slice none 0 0)).setCell ⟨w.heap.size + 1, 11, none⟩ (.int .i64 (-1))).setCell ⟨w.heap.size + 1, 13, none⟩ (.bool false)) = wf at HZ HT ⊢
  go_ret
  exact ⟨_, _, rfl, HZ.out, HT.out⟩
set_option maxHeartbeats 8000000 in
set_option maxRecDepth 100000 in
theorem pts_no (c : Cl) (K : Option Addr) (m d : Nat) (keys : List Int) (w : World) (ho : openB c = false) (hi : idleB c = false) (hk : c.k = 17) (hs : c.is = false) : Calls Tryz.prog 59 #[c.val, .slice K m d] w (PtsPost (ptsOf c keys) w) := by
  obtain ⟨me, k, u, v, x, era, fr, to, err, is, n, wt, list, cA, cap⟩ := c
  simp only at hk hs
  subst hk hs
  have hp : ptsOf (⟨me, 17, u, v, x, era, fr, to, err, false, n, wt, list, cA, cap⟩ : Cl) keys = [ptFirst (⟨me, 17, u, v, x, era, fr, to, err, false, n, wt, list, cA, cap⟩ : Cl)] := by unfold ptsOf; rw [ho, hi]; simp
  rw [hp]
  unfold PtsPost
  show Calls _ _ _ _ fun e w' => ∃ B d, e = .returned (.slice B 1 d) ∧ _ ∧ _
  have T := Lib.hid (@after2 w (⟨me, 17, u, v, x, era, fr, to, err, false, n, wt, list, cA, cap⟩ : Cl))
  have HW := Lib.hid (w2_ok w (⟨me, 17, u, v, x, era, fr, to, err, false, n, wt, list, cA, cap⟩ : Cl))
  have HO : Hid (∀ W, Calls Tryz.prog 56 #[Cl.val (⟨me, 17, u, v, x, era, fr, to, err, false, n, wt, list, cA, cap⟩ : Cl)] W fun e w' => e = .returned (.bool false) ∧ Below W.heap.size W w') := Lib.hid fun W => by have := open_any (⟨me, 17, u, v, x, era, fr, to, err, false, n, wt, list, cA, cap⟩ : Cl) W; rw [ho] at this; exact this
  have HI : Hid (∀ W, Calls Tryz.prog 57 #[Cl.val (⟨me, 17, u, v, x, era, fr, to, err, false, n, wt, list, cA, cap⟩ : Cl)] W fun e w' => e = .returned (.bool false) ∧ Below W.heap.size W w') := Lib.hid fun W => by have := idle_any (⟨me, 17, u, v, x, era, fr, to, err, false, n, wt, list, cA, cap⟩ : Cl) W; rw [hi] at this; exact this
  unfold Cl.val at HO HI ⊢
  clear hp ho hi
  go_enter Tryz.func59, Tryz.ntmps59
  go_wp2_with (first
    | (go_at_call 56; ((with_reducible refine (HO.out _).mono ?_); rintro e w1 ⟨rfl, hb⟩; have HC1 := Lib.hid hb; obtain ⟨⟨c0, c1, c2, c3, c4, c5, c6, c7, c8, c9, c10, c11, c12⟩, ⟨⟨p0, p1, p2, p3, p4, p5, p6, p7, p8, p9, p10, p11, p12, p13⟩, pf⟩, hbw⟩ := T.out _ HC1.out; have HB1 := Lib.hid hbw; simp only at c0 c1 c2 c3 c4 c5 c6 c7 c8 c9 c10 c11 c12; simp only [ptPlain] at p0 p1 p2 p3 p4 p5 p6 p7 p9 p10 p11 p12 p13; clear hb hbw))
    | (go_at_call 57; ((with_reducible refine (HI.out _).mono ?_); rintro e w2 ⟨rfl, hb⟩; clear c0 c1 c2 c3 c4 c5 c6 c7 c8 c9 c10 c11 c12 p0 p1 p2 p3 p4 p5 p6 p7 p8 p9 p10 p11 p12 p13 pf; have HC2 := Lib.hid (HC1.out.trans (hb.mono HC1.out.size)); obtain ⟨⟨c0, c1, c2, c3, c4, c5, c6, c7, c8, c9, c10, c11, c12⟩, ⟨⟨p0, p1, p2, p3, p4, p5, p6, p7, p8, p9, p10, p11, p12, p13⟩, pf⟩, hbw⟩ := T.out _ HC2.out; have HB2 := Lib.hid hbw; simp only at c0 c1 c2 c3 c4 c5 c6 c7 c8 c9 c10 c11 c12; simp only [ptPlain] at p0 p1 p2 p3 p4 p5 p6 p7 p9 p10 p11 p12 p13; clear hb hbw))
    | (go_at_call 56; ((with_reducible refine (HO.out _).mono ?_); rintro e w3 ⟨rfl, hb⟩; clear c0 c1 c2 c3 c4 c5 c6 c7 c8 c9 c10 c11 c12 p0 p1 p2 p3 p4 p5 p6 p7 p8 p9 p10 p11 p12 p13 pf; have HC3 := Lib.hid (HC2.out.trans (hb.mono HC2.out.size)); obtain ⟨⟨c0, c1, c2, c3, c4, c5, c6, c7, c8, c9, c10, c11, c12⟩, ⟨⟨p0, p1, p2, p3, p4, p5, p6, p7, p8, p9, p10, p11, p12, p13⟩, pf⟩, hbw⟩ := T.out _ HC3.out; have HB3 := Lib.hid hbw; simp only at c0 c1 c2 c3 c4 c5 c6 c7 c8 c9 c10 c11 c12; simp only [ptPlain] at p0 p1 p2 p3 p4 p5 p6 p7 p9 p10 p11 p12 p13; clear hb hbw)))
  have HF := Lib.hid (first_ok (c := (⟨me, 17, u, v, x, era, fr, to, err, false, n, wt, list, cA, cap⟩ : Cl)) HC3.out)
  simp only at HF
  go_big_region
  obtain ⟨hf1, hf2, hf3, hf4⟩ := HF.out
  clear HF
  have HF1 := Lib.hid hf1
  have HF2 := Lib.hid hf2
  have HF3 := Lib.hid hf3
  have HF4 := Lib.hid hf4
  clear hf1 hf2 hf3 hf4 c0 c1 c2 c3 c4 c5 c6 c7 c8 c9 c10 c11 c12 p0 p1 p2 p3 p4 p5 p6 p7 p8 p9 p10 p11 p12 p13 pf
  simp only [World.setCells] at HF1 HF2 HF3 HF4
  generalize (((((((((w3.setCell ⟨w.heap.size + 1, 0, none⟩ (.int .i64 13)).setCell ⟨w.heap.size + 1, 1, none⟩ (.int .i64 u)).setCell ⟨w.heap.size + 1, 2, none⟩ (.int .i64 0)).setCell ⟨w.heap.size + 1, 3, none⟩ (.int .u64 0)).setCell ⟨w.heap.size + 1, 4, none⟩ (.int .i64 0)).setCell ⟨w.heap.size + 1, 5, none⟩ (.bool false)).setCell ⟨w.heap.size + 1, 6, none⟩ (.int .i64 0)).setCell ⟨w.heap.size + 1, 7, none⟩ (.int .u64 0)).setCell ⟨w.heap.size + 1, 8, none⟩ (.slice none 0 0)) = wx at HF1 HF2 HF3 HF4 ⊢
  obtain ⟨⟨p0, p1, p2, p3, p4, p5, p6, p7, p8, p9, p10, p11, p12, p13⟩, pf⟩ := HF1.out
  obtain ⟨c0, c1, c2, c3, c4, c5, c6, c7, c8, c9, c10, c11, c12⟩ := HF2.out
  simp only [ptFirst] at p0 p1 p2 p3 p4 p5 p6 p7 p9 p10 p11 p12 p13
  simp only at c0 c1 c2 c3 c4 c5 c6 c7 c8 c9 c10 c11 c12
  have c9' := ((At.below HF2.out ((Below.refl _ _).alloc (Nat.le_refl _) (pbx (ptFirst (⟨me, 17, u, v, x, era, fr, to, err, false, n, wt, list, cA, cap⟩ : Cl))))) (Nat.le_refl _)).2.2.2.2.2.2.2.2.2.1
  simp only [ptFirst] at c9'
  go_wp2
  go_ret
  exact ⟨_, _, rfl, (fun hp => by obtain ⟨b, off, hA, hc⟩ := sl_new wx (ptFirst (⟨me, 17, u, v, x, era, fr, to, err, false, n, wt, list, cA, cap⟩ : Cl)) hp; exact ⟨b, off, hA, fun j v hj => hc j v hj⟩), (HF3.out.alloc HF3.out.size _).drew⟩
set_option maxHeartbeats 16000000 in
set_option maxRecDepth 100000 in
theorem pts_yes (c : Cl) (K : Option Addr) (d : Nat) (keys : List Int) (w : World) (ho : openB c = false) (hi : idleB c = false) (hk : c.k = 17) (hs : c.is = true) (hK : Sl w K (keys.map (Value.int .i64))) (h40 : keys.length ≤ 100000) (hL : Sl w c.A (c.list.map (Value.int .i64))) (hlb : c.list.length ≤ 9223372036854775807) : Calls Tryz.prog 59 #[c.val, .slice K keys.length d] w (PtsPost (ptFirst c :: nears c keys) w) := by
  obtain ⟨me, k, u, v, x, era, fr, to, err, is, n, wt, list, cA, cap⟩ := c
  simp only at hk hs
  subst hk hs
  unfold PtsPost
  have T := Lib.hid (@after2 w (⟨me, 17, u, v, x, era, fr, to, err, true, n, wt, list, cA, cap⟩ : Cl))
  have HO : Hid (∀ W, Calls Tryz.prog 56 #[Cl.val (⟨me, 17, u, v, x, era, fr, to, err, true, n, wt, list, cA, cap⟩ : Cl)] W fun e w' => e = .returned (.bool false) ∧ Below W.heap.size W w') := Lib.hid fun W => by have := open_any (⟨me, 17, u, v, x, era, fr, to, err, true, n, wt, list, cA, cap⟩ : Cl) W; rw [ho] at this; exact this
  have HI : Hid (∀ W, Calls Tryz.prog 57 #[Cl.val (⟨me, 17, u, v, x, era, fr, to, err, true, n, wt, list, cA, cap⟩ : Cl)] W fun e w' => e = .returned (.bool false) ∧ Below W.heap.size W w') := Lib.hid fun W => by have := idle_any (⟨me, 17, u, v, x, era, fr, to, err, true, n, wt, list, cA, cap⟩ : Cl) W; rw [hi] at this; exact this
  unfold Cl.val at HO HI ⊢
  have HK := Lib.hid hK
  have HL := Lib.hid hL
  have HLB := Lib.hid hlb
  simp only at HL HLB
  clear ho hi hK hL hlb
  obtain ⟨i0', hi0, hz0, hz1, hz2⟩ := info_parts pt_info
  go_enter Tryz.func59, Tryz.ntmps59
  go_wp2_with (first
    | (go_at_call 56; ((with_reducible refine (HO.out _).mono ?_); rintro e w1 ⟨rfl, hb⟩; have HC1 := Lib.hid hb; obtain ⟨⟨c0, c1, c2, c3, c4, c5, c6, c7, c8, c9, c10, c11, c12⟩, ⟨⟨p0, p1, p2, p3, p4, p5, p6, p7, p8, p9, p10, p11, p12, p13⟩, pf⟩, hbw⟩ := T.out _ HC1.out; have HB1 := Lib.hid hbw; simp only at c0 c1 c2 c3 c4 c5 c6 c7 c8 c9 c10 c11 c12; simp only [ptPlain] at p0 p1 p2 p3 p4 p5 p6 p7 p9 p10 p11 p12 p13; clear hb hbw))
    | (go_at_call 57; ((with_reducible refine (HI.out _).mono ?_); rintro e w2 ⟨rfl, hb⟩; clear c0 c1 c2 c3 c4 c5 c6 c7 c8 c9 c10 c11 c12 p0 p1 p2 p3 p4 p5 p6 p7 p8 p9 p10 p11 p12 p13 pf; have HC2 := Lib.hid (HC1.out.trans (hb.mono HC1.out.size)); obtain ⟨⟨c0, c1, c2, c3, c4, c5, c6, c7, c8, c9, c10, c11, c12⟩, ⟨⟨p0, p1, p2, p3, p4, p5, p6, p7, p8, p9, p10, p11, p12, p13⟩, pf⟩, hbw⟩ := T.out _ HC2.out; have HB2 := Lib.hid hbw; simp only at c0 c1 c2 c3 c4 c5 c6 c7 c8 c9 c10 c11 c12; simp only [ptPlain] at p0 p1 p2 p3 p4 p5 p6 p7 p9 p10 p11 p12 p13; clear hb hbw))
    | (go_at_call 56; ((with_reducible refine (HO.out _).mono ?_); rintro e w3 ⟨rfl, hb⟩; clear c0 c1 c2 c3 c4 c5 c6 c7 c8 c9 c10 c11 c12 p0 p1 p2 p3 p4 p5 p6 p7 p8 p9 p10 p11 p12 p13 pf; have HC3 := Lib.hid (HC2.out.trans (hb.mono HC2.out.size)); obtain ⟨⟨c0, c1, c2, c3, c4, c5, c6, c7, c8, c9, c10, c11, c12⟩, ⟨⟨p0, p1, p2, p3, p4, p5, p6, p7, p8, p9, p10, p11, p12, p13⟩, pf⟩, hbw⟩ := T.out _ HC3.out; have HB3 := Lib.hid hbw; simp only at c0 c1 c2 c3 c4 c5 c6 c7 c8 c9 c10 c11 c12; simp only [ptPlain] at p0 p1 p2 p3 p4 p5 p6 p7 p9 p10 p11 p12 p13; clear hb hbw)))
  have HF := Lib.hid (first_ok (c := (⟨me, 17, u, v, x, era, fr, to, err, true, n, wt, list, cA, cap⟩ : Cl)) HC3.out)
  simp only at HF
  go_big_region
  obtain ⟨hf1, hf2, hf3, hf4⟩ := HF.out
  clear HF
  have HF1 := Lib.hid hf1
  have HF2 := Lib.hid hf2
  have HF3 := Lib.hid hf3
  have HF4 := Lib.hid hf4
  clear hf1 hf2 hf3 hf4 c0 c1 c2 c3 c4 c5 c6 c7 c8 c9 c10 c11 c12 p0 p1 p2 p3 p4 p5 p6 p7 p8 p9 p10 p11 p12 p13 pf
  simp only [World.setCells] at HF1 HF2 HF3 HF4
  generalize (((((((((w3.setCell ⟨w.heap.size + 1, 0, none⟩ (.int .i64 13)).setCell ⟨w.heap.size + 1, 1, none⟩ (.int .i64 u)).setCell ⟨w.heap.size + 1, 2, none⟩ (.int .i64 0)).setCell ⟨w.heap.size + 1, 3, none⟩ (.int .u64 0)).setCell ⟨w.heap.size + 1, 4, none⟩ (.int .i64 0)).setCell ⟨w.heap.size + 1, 5, none⟩ (.bool true)).setCell ⟨w.heap.size + 1, 6, none⟩ (.int .i64 0)).setCell ⟨w.heap.size + 1, 7, none⟩ (.int .u64 0)).setCell ⟨w.heap.size + 1, 8, none⟩ (.slice none 0 0)) = wx at HF1 HF2 HF3 HF4 ⊢
  obtain ⟨⟨p0, p1, p2, p3, p4, p5, p6, p7, p8, p9, p10, p11, p12, p13⟩, pf⟩ := HF1.out
  obtain ⟨c0, c1, c2, c3, c4, c5, c6, c7, c8, c9, c10, c11, c12⟩ := HF2.out
  simp only [ptFirst] at p0 p1 p2 p3 p4 p5 p6 p7 p9 p10 p11 p12 p13
  simp only at c0 c1 c2 c3 c4 c5 c6 c7 c8 c9 c10 c11 c12
  have OW := Lib.hid ((own_new wx (ptFirst (⟨me, 17, u, v, x, era, fr, to, err, true, n, wt, list, cA, cap⟩ : Cl)) (w.heap.size + 2) HF4.out).drew)
  have QX := Lib.hid ((HF3.out.alloc HF3.out.size (pbx (ptFirst (⟨me, 17, u, v, x, era, fr, to, err, true, n, wt, list, cA, cap⟩ : Cl)))).drew)
  have QA := Lib.hid (HF2.out.below ((Below.refl _ _).alloc (Nat.le_refl _) (pbx (ptFirst (⟨me, 17, u, v, x, era, fr, to, err, true, n, wt, list, cA, cap⟩ : Cl)))).drew (Nat.le_refl _))
  have QP := Lib.hid (HF1.out.below ((Below.refl wx.heap.size wx).alloc (Nat.le_refl _) (pbx (ptFirst (⟨me, 17, u, v, x, era, fr, to, err, true, n, wt, list, cA, cap⟩ : Cl)))).drew (by have := HF4.out; omega))
  have QS : Hid (w.heap.size + 2 ≤ (wx.alloc (pbx (ptFirst (⟨me, 17, u, v, x, era, fr, to, err, true, n, wt, list, cA, cap⟩ : Cl)))).drew.heap.size) := Lib.hid (by show _ ≤ (wx.alloc _).heap.size; rw [World.size_alloc]; have := HF4.out; omega)
  have c9' := ((At.below HF2.out ((Below.refl _ _).alloc (Nat.le_refl _) (pbx (ptFirst (⟨me, 17, u, v, x, era, fr, to, err, true, n, wt, list, cA, cap⟩ : Cl))))) (Nat.le_refl _)).2.2.2.2.2.2.2.2.2.1
  simp only [ptFirst] at c9'
  go_wp2
  go_loopw [6, 72] (fun sv j wr => ∃ i : Nat, i ≤ keys.length ∧ j = .int .i64 i ∧ wr.ownsRow (w.heap.size + 2) 75 14 sv (1 + (nears (⟨me, 17, u, v, x, era, fr, to, err, true, n, wt, list, cA, cap⟩ : Cl) (keys.take i)).length) (flat (ptFirst (⟨me, 17, u, v, x, era, fr, to, err, true, n, wt, list, cA, cap⟩ : Cl) :: nears (⟨me, 17, u, v, x, era, fr, to, err, true, n, wt, list, cA, cap⟩ : Cl) (keys.take i))) ∧ (∃ q, PtAt wr (w.heap.size + 1) q ∧ q.fr = fr ∧ q.to = to ∧ q.era = era ∧ q.must = true) ∧ At wr w.heap.size 0 (⟨me, 17, u, v, x, era, fr, to, err, true, n, wt, list, cA, cap⟩ : Cl) ∧ Below w.heap.size w wr ∧ w.heap.size + 2 ≤ wr.heap.size) (fun _ j _ => keys.length - (intOf j).toNat)
  case atStart => exact ⟨0, Nat.zero_le _, rfl, OW.out, ⟨_, QP.out, rfl, rfl, rfl, rfl⟩, QA.out, QX.out, QS.out⟩
  case round =>
    obtain ⟨i, hile, rfl, how, ⟨q, hq, hq1, hq2, hq3, hq4⟩, hat, hbl, hsz⟩ := hrel
    obtain ⟨T2, tc, hT2⟩ := own_any how
    subst hT2
    have HOW := Lib.hid how
    have HQ := Lib.hid hq
    have HQ1 := Lib.hid (And.intro hq1 (And.intro hq2 (And.intro hq3 hq4)))
    have HAT := Lib.hid hat
    have HBL := Lib.hid hbl
    have HSZ := Lib.hid hsz
    clear how hq hq1 hq2 hq3 hq4 hat hbl hsz
    by_cases hlt : i < keys.length
    · obtain ⟨bk, ok, hA, hkc⟩ := (HK.out.below HBL.out (Nat.le_refl _)) (by rw [List.length_map]; omega)
      subst hA
      have ck := hkc i (.int .i64 keys[i]) (by rw [List.getElem?_map, List.getElem?_eq_getElem hlt]; rfl)
      have NN := Lib.hid (nears_next (⟨me, 17, u, v, x, era, fr, to, err, true, n, wt, list, cA, cap⟩ : Cl) hlt)
      have hple : (nears (⟨me, 17, u, v, x, era, fr, to, err, true, n, wt, list, cA, cap⟩ : Cl) (keys.take i)).length ≤ 100000 := by unfold nears; rw [List.length_map]; exact Nat.le_trans (List.length_filter_le _ _) (by rw [List.length_take]; omega)
      generalize nears (⟨me, 17, u, v, x, era, fr, to, err, true, n, wt, list, cA, cap⟩ : Cl) (keys.take i) = ps at HOW NN hple ⊢
      generalize keys[i] = key at ck NN
      have i0 : (0 : Int) ≤ (i : Int) := by omega
      have i1 : (i : Int) < (keys.length : Int) := by omega
      have n3 : IntKind.i64.wrap ((i : Int) + 1) = (i : Int) + 1 := by rw [IntKind.wrap_i64] <;> omega
      cases hv : isV key
      · have HV : Hid (∀ W, Calls Tryz.prog 87 #[.int .i64 key] W fun e w' => (∃ k, e = .returned (.tuple #[.int .u64 k, .int .i64 4])) ∧ W = w') := Lib.hid (fun W => by have := vertex_any key W; rw [hv, errF] at this; exact this)
        rw [hv] at NN
        clear hv hkc
        go_wp2_with (go_at_call 87; ((with_reducible refine (HV.out _).mono ?_); rintro e w' ⟨⟨k1, rfl⟩, rfl⟩))
        go_roundw
        case rel => exact ⟨i + 1, by omega, by go_num, by rw [NN.out]; simpa using HOW.out, ⟨_, HQ.out, HQ1.out.1, HQ1.out.2.1, HQ1.out.2.2.1, HQ1.out.2.2.2⟩, HAT.out, HBL.out, HSZ.out⟩
        case measure => simp [intOf]; omega
      · have HV : Hid (∀ W, Calls Tryz.prog 87 #[.int .i64 key] W fun e w' => (∃ k, e = .returned (.tuple #[.int .u64 k, .int .i64 0])) ∧ W = w') := Lib.hid (fun W => by have := vertex_any key W; rw [hv, errT] at this; exact this)
        rw [hv] at NN
        clear hv hkc
        obtain ⟨bq, hbq⟩ : ∃ bq, list.contains key = bq := ⟨_, rfl⟩
        have HBQ := Lib.hid hbq
        have HC : Hid (∀ W, Below w.heap.size w W → Calls Tryz.prog 88 #[.slice cA list.length cap, .int .i64 key] W fun e w' => e = .returned (.bool bq) ∧ W = w') := Lib.hid (fun W hW => by have := contains_sl cA cap list key W (HL.out.below hW (Nat.le_refl _)) HLB.out; rw [hbq] at this; exact this)
        clear hbq
        have HB4 := Lib.hid (below_set (w.heap.size + 1) (Nat.le_succ _) [.int .i64 16, .int .i64 u, .int .i64 key, .int .u64 0] 0 HBL.out)
        simp only [World.setCells] at HB4
        have D4 := Lib.hid (HC.out _ HB4.out)
        obtain ⟨⟨p0, p1, p2, p3, p4, p5, p6, p7, p8, p9, p10, p11, p12, p13⟩, pf⟩ := HQ.out
        obtain ⟨c0, c1, c2, c3, c4, c5, c6, c7, c8, c9, c10, c11, c12⟩ := HAT.out
        simp only at c0 c1 c2 c3 c4 c5 c6 c7 c8 c9 c10 c11 c12
        clear HC p10 p11 p12 p13 c0 c1 c3 c4 c5 c6 c7 c8 c9 c10 c11
        go_upto_region 21 with (first
          | (go_at_call 87; ((with_reducible refine (HV.out _).mono ?_); rintro e w' ⟨⟨k1, rfl⟩, rfl⟩))
          | (go_at_call 88; ((with_reducible refine D4.out.mono ?_); rintro e w' ⟨rfl, rfl⟩)))
        have W1 := Lib.hid (show PtAt (wr.setCells (w.heap.size + 1) 0 [.int .i64 16, .int .i64 u, .int .i64 key, .int .u64 0, .int .i64 0, .bool bq, .int .i64 0, .int .u64 0, .slice none 0 0, .bool true]) (w.heap.size + 1) (ptNear (⟨me, 17, u, v, x, era, fr, to, err, true, n, wt, list, cA, cap⟩ : Cl) key) from HQ.out.set [.int .i64 16, .int .i64 u, .int .i64 key, .int .u64 0, .int .i64 0, .bool bq, .int .i64 0, .int .u64 0, .slice none 0 0, .bool true] (by
          obtain ⟨z1, z2, z3, z4⟩ := HQ1.out
          unfold Pt.cells ptNear
          simp only [HBQ.out, z1, z2, z3, z4]
          rfl))
        have W2 := Lib.hid (HAT.out.set (w.heap.size + 1) (by omega) [.int .i64 16, .int .i64 u, .int .i64 key, .int .u64 0, .int .i64 0, .bool bq, .int .i64 0, .int .u64 0, .slice none 0 0, .bool true] 0)
        have W3 := Lib.hid (own_set (w.heap.size + 1) (by omega) [.int .i64 16, .int .i64 u, .int .i64 key, .int .u64 0, .int .i64 0, .bool bq, .int .i64 0, .int .u64 0, .slice none 0 0, .bool true] 0 HOW.out)
        have W4 := Lib.hid (below_set (w.heap.size + 1) (Nat.le_succ _) [.int .i64 16, .int .i64 u, .int .i64 key, .int .u64 0, .int .i64 0, .bool bq, .int .i64 0, .int .u64 0, .slice none 0 0, .bool true] 0 HBL.out)
        have W5 := Lib.hid (show w.heap.size + 2 ≤ (wr.setCells (w.heap.size + 1) 0 [.int .i64 16, .int .i64 u, .int .i64 key, .int .u64 0, .int .i64 0, .bool bq, .int .i64 0, .int .u64 0, .slice none 0 0, .bool true]).heap.size from Nat.le_trans HSZ.out (below_set (B := 0) (w.heap.size + 1) (Nat.zero_le _) [.int .i64 16, .int .i64 u, .int .i64 key, .int .u64 0, .int .i64 0, .bool bq, .int .i64 0, .int .u64 0, .slice none 0 0, .bool true] 0 (Below.refl 0 wr)).size)
        simp only [World.setCells] at W1 W2 W3 W4 W5
        clear p0 p1 p2 p3 p4 p5 p6 p7 p8 p9 pf c2 c12 HB4 D4 ck HOW HQ HAT HBL HSZ
        generalize ((((((((((wr.setCell ⟨w.heap.size + 1, 0, none⟩ (.int .i64 16)).setCell ⟨w.heap.size + 1, 1, none⟩ (.int .i64 u)).setCell ⟨w.heap.size + 1, 2, none⟩ (.int .i64 key)).setCell ⟨w.heap.size + 1, 3, none⟩ (.int .u64 0)).setCell ⟨w.heap.size + 1, 4, none⟩ (.int .i64 0)).setCell ⟨w.heap.size + 1, 5, none⟩ (.bool bq)).setCell ⟨w.heap.size + 1, 6, none⟩ (.int .i64 0)).setCell ⟨w.heap.size + 1, 7, none⟩ (.int .u64 0)).setCell ⟨w.heap.size + 1, 8, none⟩ (.slice none 0 0)).setCell ⟨w.heap.size + 1, 9, none⟩ (.bool true)) = wy at W1 W2 W3 W4 W5 ⊢
        obtain ⟨⟨p0, p1, p2, p3, p4, p5, p6, p7, p8, p9, p10, p11, p12, p13⟩, pf⟩ := W1.out
        simp only [ptNear, HBQ.out] at p0 p1 p2 p3 p4 p5 p6 p7 p9 p10 p11 p12 p13
        have m1 : 1 + ps.length + 1 ≤ maxLen := by unfold maxLen; omega
        have y1 : (1 + ps.length + 1) * 128 ≤ 140737488355328 := by omega
        have HOA := Lib.hid (W3.out.alloc (pbx (ptNear (⟨me, 17, u, v, x, era, fr, to, err, true, n, wt, list, cA, cap⟩ : Cl) key)))
        have HS := Lib.hid (sl_new wy (ptNear (⟨me, 17, u, v, x, era, fr, to, err, true, n, wt, list, cA, cap⟩ : Cl) key))
        have HBA := Lib.hid (show w.heap.size + 2 ≤ (wy.alloc (pbx (ptNear (⟨me, 17, u, v, x, era, fr, to, err, true, n, wt, list, cA, cap⟩ : Cl) key))).heap.size from by rw [World.size_alloc]; have := W5.out; omega)
        have KP := Lib.hid (show ∀ w5, Below (w.heap.size + 2) (wy.alloc (pbx (ptNear (⟨me, 17, u, v, x, era, fr, to, err, true, n, wt, list, cA, cap⟩ : Cl) key))) w5 → PtAt w5 (w.heap.size + 1) (ptNear (⟨me, 17, u, v, x, era, fr, to, err, true, n, wt, list, cA, cap⟩ : Cl) key) ∧ At w5 w.heap.size 0 (⟨me, 17, u, v, x, era, fr, to, err, true, n, wt, list, cA, cap⟩ : Cl) ∧ Below w.heap.size w w5 ∧ w.heap.size + 2 ≤ w5.heap.size from fun w5 h5 =>
          ⟨(W1.out.below ((Below.refl wy.heap.size wy).alloc (Nat.le_refl _) _) (by have := W5.out; omega)).below h5 (by omega), (W2.out.below ((Below.refl _ _).alloc (Nat.le_refl _) _) (Nat.le_refl _)).keep h5 (by omega), (W4.out.alloc W4.out.size _).trans (h5.mono (by omega)), Nat.le_trans HBA.out h5.size⟩)
        unfold pbx at HOA HS HBA KP
        simp only [ptNear, HBQ.out] at HOA HBA KP
        have HS2 : Hid (Sl (wy.alloc (.cells #[.int .i64 16, .int .i64 u, .int .i64 key, .int .u64 0, .int .i64 0, .bool bq, .int .i64 0, .int .u64 0, .slice none 0 0, .bool true, .int .i64 fr, .int .i64 to, .int .i64 era, .bool true] 75)) (some ⟨wy.heap.size, 0, none⟩) (flat [ptNear (⟨me, 17, u, v, x, era, fr, to, err, true, n, wt, list, cA, cap⟩ : Cl) key])) := Lib.hid (by have := HS.out; simp only [ptNear, HBQ.out] at this ⊢; exact this)
        clear HS
        go_wp2_with (
          at_builtin
          refine wpList_append_sl _ rfl (.tmp 97) (.tmp 99) 72 rfl (w.heap.size + 2) 75 i0' _ 14 128 Tryz.underlying72 hi0 hz0 hz1 hz2 rfl (by decide) _ (1 + ps.length) _ rfl HOA.out (some ⟨wy.heap.size, 0, none⟩) 1 1 (flat [ptNear (⟨me, 17, u, v, x, era, fr, to, err, true, n, wt, list, cA, cap⟩ : Cl) key]) rfl rfl HS2.out (flat_one _) m1 y1 HBA.out (1 + ps.length + 1) rfl ?_
          intro A5 c5 w5 hown5 hb5 _ _
          have HO5 := Lib.hid hown5
          have HK5 := Lib.hid (KP.out w5 hb5)
          clear hown5 hb5)
        refine ⟨⟨i + 1, by omega, by go_num, ?_, ⟨_, HK5.out.1, rfl, rfl, rfl, rfl⟩, HK5.out.2.1, HK5.out.2.2.1, HK5.out.2.2.2⟩, by simp [intOf]; omega⟩
        rw [NN.out, if_pos (by trivial), ← List.cons_append, flat_append, List.length_append]
        exact HO5.out
    · obtain rfl : i = keys.length := by omega
      rw [List.take_length] at HOW ⊢
      have SL := Lib.hid (own_slk HOW.out)
      go_wp2
      go_ret
      exact ⟨T2, tc, (show Ending.returned (Value.slice T2 (1 + (nears (⟨me, 17, u, v, x, era, fr, to, err, true, n, wt, list, cA, cap⟩ : Cl) keys).length) tc) = Ending.returned (Value.slice T2 ((nears (⟨me, 17, u, v, x, era, fr, to, err, true, n, wt, list, cA, cap⟩ : Cl) keys).length + 1) tc) from by rw [Nat.add_comm]), SL.out, HBL.out⟩
theorem pts_any (c : Cl) (K : Option Addr) (m d : Nat) (keys : List Int) (w : World) (hm : m = keys.length) (hK : Sl w K (keys.map (Value.int .i64))) (h40 : keys.length ≤ 100000) (hL : Sl w c.A (c.list.map (Value.int .i64))) (hlb : c.list.length ≤ 9223372036854775807) : Calls Tryz.prog 59 #[c.val, .slice K m d] w (PtsPost (ptsOf c keys) w) := by
  cases ho : openB c
  · cases hi : idleB c
    · by_cases hk : c.k = 17
      · cases hs : c.is
        · exact pts_no c K m d keys w ho hi hk hs
        · subst hm
          have := pts_yes c K d keys w ho hi hk hs hK h40 hL hlb
          have e : ptsOf c keys = ptFirst c :: nears c keys := by unfold ptsOf; rw [ho, hi]; simp [hk, hs]
          rw [e]; exact this
      · exact pts_plain c K m d keys w ho hi hk
    · exact pts_idle c K m d keys w ho hi
  · cases ha : asksB c.k
    · cases hi : idleB c
      · exact pts_open c K m d keys w ho ha hi
      · have h1 := of_decide_eq_true (show decide (c.to < 0 ∨ c.err = 7) = true from ho)
        have h2 := of_decide_eq_true (show decide (0 ≤ c.to ∧ (c.err = 3 ∨ c.err = 4 ∨ c.err = 6 ∨ c.err = 9)) = true from hi)
        omega
    · exact pts_ask c K m d keys w ho ha
end Go.Proofs.YtpdfmfkoopdfgaaGreatDoor.Hs
end
section
namespace Go.Proofs.YtpdfmfkoopdfgaaGreatDoor.Hs
set_option maxRecDepth 100000
open Go.RowKit Aid

def pointsK (l : List Cl) (keys : List Int) : List Pt := l.flatMap fun c => ptsOf c keys
def pointsOf (l : List Cl) : List Pt := pointsK l (keysOf l)
theorem nears_le (c : Cl) (keys : List Int) : (nears c keys).length ≤ keys.length := by unfold nears; rw [List.length_map]; exact List.length_filter_le _ _
theorem pts_le (c : Cl) (keys : List Int) : (ptsOf c keys).length ≤ keys.length + 1 := by
  unfold ptsOf
  repeat' split
  all_goals first | (simp; done) | (simp only [List.length_cons]; have := nears_le c keys; omega)
theorem points_le (keys : List Int) : ∀ l : List Cl, (pointsK l keys).length ≤ l.length * (keys.length + 1)
  | [] => by simp [pointsK]
  | c :: l => by
    have h1 := pts_le c keys
    have h2 := points_le keys l
    unfold pointsK at h2 ⊢
    rw [List.flatMap_cons, List.length_append, List.length_cons, Nat.add_mul]
    omega
theorem points_next {l : List Cl} {keys : List Int} {k : Nat} (h : k < l.length) : pointsK (l.take (k + 1)) keys = pointsK (l.take k) keys ++ ptsOf l[k] keys := by
  unfold pointsK
  rw [List.take_succ_eq_append_getElem h, List.flatMap_append]
  simp
theorem keys_len (l : List Cl) : (keysOf l).length ≤ 2 * l.length := Nat.le_trans (uniq_le _) (names_le l)
theorem own_room {w : World} {base : Nat} {e : TypeId} {size : Nat} {A : Option Addr} {n c : Nat} {xs : List Value} (h : w.ownsRow base e size (.slice A n c) n xs) : n ≤ c := by
  rcases h.2 with ⟨_, h1⟩ | ⟨g, cap, cur, hv, _, _, h3, _⟩
  · omega
  · injection hv with _ _ hc
    omega
set_option maxHeartbeats 8000000 in
set_option maxRecDepth 100000 in
theorem points_any (A : Option Addr) (c n : Nat) (l : List Cl) (w : World) (hn : n = l.length) (hl : Cls w A l) (h40 : l.length ≤ 1000) (hb : ∀ a ∈ l, a.list.length ≤ 9223372036854775807) :
    Calls Tryz.prog 35 #[.slice A n c] w fun e w' => ∃ B d, e = .returned (.slice B (pointsOf l).length d) ∧ Sl w' B (flat (pointsOf l)) ∧ Below w.heap.size w w' ∧ (pointsOf l).length ≤ d := by
  subst hn
  have HL := Lib.hid hl
  have HLL := Lib.hid hb
  have DK := Lib.hid (keys_any A c l.length l w rfl hl h40)
  have HKL := Lib.hid (keys_len l)
  clear hl hb
  obtain ⟨i0', hi0, hz0, hz1, hz2⟩ := info_parts pt_info
  unfold pointsOf
  generalize keysOf l = keys at DK HKL ⊢
  go_enter Tryz.func35, Tryz.ntmps35
  go_wp2_with (go_at_call 53; ((with_reducible refine DK.out.mono ?_); rintro e w1 ⟨K, d, rfl, hok, hb1⟩; have HOK := Lib.hid hok; have HB1 := Lib.hid hb1; clear hok hb1))
  go_loopw [4, 11] (fun sv j wr => ∃ k : Nat, k ≤ l.length ∧ j = .int .i64 k ∧ wr.ownsRow w1.heap.size 75 14 sv (pointsK (l.take k) keys).length (flat (pointsK (l.take k) keys)) ∧ Below w1.heap.size w1 wr) (fun _ j _ => l.length - (intOf j).toNat)
  case atStart => exact ⟨0, Nat.zero_le _, rfl, World.ownsRow_nil _ _ _ _, Below.refl _ _⟩
  case round =>
    obtain ⟨k, hk, rfl, ho, hb⟩ := hrel
    obtain ⟨T, tc, hT⟩ := own_any ho
    subst hT
    have HO := Lib.hid ho
    have HB := Lib.hid hb
    have HW := Lib.hid (HB1.out.trans (hb.mono HB1.out.size))
    clear ho hb
    by_cases hlt : k < l.length
    · obtain ⟨b, off, hA, hat⟩ := (HL.out.below HW.out (Nat.le_refl _)).get (List.getElem?_eq_getElem hlt)
      obtain ⟨c0, c1, c2, c3, c4, c5, c6, c7, c8, c9, c10, c11, c12⟩ := hat
      subst hA
      have HN := Lib.hid (points_next (keys := keys) hlt)
      have hle : (pointsK (l.take k) keys).length ≤ 1000 * 2001 := by
        refine Nat.le_trans (points_le keys _) (Nat.mul_le_mul ?_ ?_)
        · rw [List.length_take]; omega
        · have := HKL.out; omega
      have HSL := Lib.hid (HL.out.1 l[k] (List.getElem_mem hlt))
      have HBL := Lib.hid (HLL.out l[k] (List.getElem_mem hlt))
      generalize pointsK (l.take k) keys = ps at HO HN hle ⊢
      generalize l[k] = a at c0 c1 c2 c3 c4 c5 c6 c7 c8 c9 c10 c11 c12 HN HSL HBL
      have k0 : (0 : Int) ≤ (k : Int) := by omega
      have k1 : (k : Int) < (l.length : Int) := by omega
      have n3 : IntKind.i64.wrap ((k : Int) + 1) = (k : Int) + 1 := by rw [IntKind.wrap_i64] <;> omega
      have HA := Lib.hid (HB.out.alloc HB.out.size (bx a))
      have HOA := Lib.hid (HO.out.alloc (bx a))
      have hpl := pts_le a keys
      have hkl := HKL.out
      have DP := Lib.hid (pts_any a K keys.length d keys (wr.alloc (bx a)) rfl ((own_sl HOK.out).below HA.out (Nat.le_refl _)) (by omega) (HSL.out.below (HB1.out.trans (HA.out.mono HB1.out.size)) (Nat.le_refl _)) HBL.out)
      generalize ptsOf a keys = qs at DP HN hpl
      have m1 : ps.length + qs.length ≤ maxLen := by unfold maxLen; omega
      have y1 : (ps.length + qs.length) * 128 ≤ 140737488355328 := by omega
      have hfl := Lib.hid (flat_length qs)
      have AF : Hid (∀ w5, Below (wr.alloc (bx a)).heap.size (wr.alloc (bx a)) w5 → w5.ownsRow w1.heap.size 75 14 (.slice T ps.length tc) ps.length (flat ps) ∧ Below w1.heap.size w1 w5 ∧ w1.heap.size ≤ w5.heap.size) := Lib.hid fun w5 h5 =>
        ⟨row_below HOA.out h5 (Nat.le_refl _), HA.out.trans (h5.mono HA.out.size), Nat.le_trans HA.out.size h5.size⟩
      unfold Cl.val PtsPost bx at DP
      unfold bx at AF
      clear hpl hkl
      go_wp2_with (first
        | (go_at_call 59; ((with_reducible refine DP.out.mono ?_); rintro e w5 ⟨B, pd, rfl, hs, hb⟩; have HS := Lib.hid hs; have HF := Lib.hid (AF.out w5 hb); clear hs hb))
        | (at_builtin
           refine wpList_append_sl _ rfl (.tmp 15) (.tmp 18) 72 rfl w1.heap.size 75 i0' _ 14 128 Tryz.underlying72 hi0 hz0 hz1 hz2 rfl (by decide) _ ps.length _ rfl HF.out.1 B qs.length pd (flat qs) rfl hfl.out HS.out (flat_one _) m1 y1 HF.out.2.2 (ps.length + qs.length) rfl ?_
           intro A7 c7' w7 hown7 hb7 _ _
           have HO7 := Lib.hid hown7
           have HB7 := Lib.hid (HF.out.2.1.trans hb7)
           clear hown7 hb7))
      go_roundw
      case rel => exact ⟨k + 1, by omega, by go_num, by rw [HN.out, flat_append, List.length_append]; exact HO7.out, HB7.out⟩
      case measure => simp [intOf]; omega
    · obtain rfl : k = l.length := by omega
      rw [List.take_length] at HO ⊢
      have SL := Lib.hid (own_slk HO.out)
      have CP := Lib.hid (own_room HO.out)
      go_wp2
      go_ret
      exact ⟨_, _, rfl, SL.out, HW.out, CP.out⟩
end Go.Proofs.YtpdfmfkoopdfgaaGreatDoor.Hs
end
section
namespace Go.Proofs.YtpdfmfkoopdfgaaGreatDoor.Hs
set_option maxRecDepth 100000
open Go.RowKit Aid

end Go.Proofs.YtpdfmfkoopdfgaaGreatDoor.Hs
end
section
namespace Go.Proofs.YtpdfmfkoopdfgaaGreatDoor.Hs
set_option maxRecDepth 100000
open Go.RowKit Aid

def flatC : List Cl → List Value
  | [] => []
  | p :: l => p.cells ++ flatC l
theorem flatC_append : ∀ l k : List Cl, flatC (l ++ k) = flatC l ++ flatC k
  | [], _ => rfl
  | p :: l, k => by rw [List.cons_append, flatC, flatC, flatC_append l k, List.append_assoc]
theorem flatC_length : ∀ l : List Cl, (flatC l).length = l.length * 13
  | [] => rfl
  | p :: l => by rw [flatC, List.length_append, flatC_length l, List.length_cons]; show 13 + _ = _; omega
theorem flatC_get : ∀ (ps : List Cl) {k : Nat} {p : Cl} {j : Nat} {v : Value}, ps[k]? = some p → p.cells[j]? = some v → (flatC ps)[k * 13 + j]? = some v
  | [], k, p, j, v, h, _ => by simp at h
  | q :: ps, 0, p, j, v, h, hj => by
    obtain rfl : q = p := by simpa using h
    rw [flatC, Nat.zero_mul, Nat.zero_add, List.getElem?_append_left (List.getElem?_eq_some_iff.1 hj).1]
    exact hj
  | q :: ps, k + 1, p, j, v, h, hj => by
    have h' : ps[k]? = some p := by simpa using h
    have hq : q.cells.length = 13 := rfl
    rw [flatC, List.getElem?_append_right (by rw [hq]; omega), hq]
    have := flatC_get ps h' hj
    rw [← this]
    congr 1
    omega
theorem flatC_one : ∀ l : List Cl, ∀ v ∈ flatC l, v.oneCell' = true
  | [], v, hv => by simp [flatC] at hv
  | p :: l, v, hv => by
    rw [flatC, List.mem_append] at hv
    rcases hv with hv | hv
    · unfold Cl.cells at hv
      simp only [List.mem_cons, List.not_mem_nil, or_false] at hv
      rcases hv with rfl | rfl | rfl | rfl | rfl | rfl | rfl | rfl | rfl | rfl | rfl | rfl | rfl <;> rfl
    · exact flatC_one l v hv
/-- A row of the call's own reads as a slice of calls. -/
theorem own_cls {w : World} {base : Nat} {A : Option Addr} {n c : Nat} {l : List Cl} (h : w.ownsRow base 43 13 (.slice A n c) n (flatC l)) (hL : ∀ a ∈ l, Sl w a.A (a.list.map (Value.int .i64))) : Cls w A l := by
  refine ⟨hL, fun hp => ?_⟩
  obtain ⟨b, off, rfl, hc⟩ := own_slk h (by rw [flatC_length]; omega)
  exact ⟨b, off, rfl, fun i a hi j v hj => by
    have := hc _ v (flatC_get l hi hj)
    rwa [← Nat.add_assoc] at this⟩
theorem call_info : (Tryz.prog.info? 43).map (fun i => (i.zero, i.size, i.bytes)) = some (some (.agg #[.int .i64 0, .int .i64 0, .int .i64 0, .int .i64 0, .int .u64 0, .int .i64 0, .int .i64 0, .int .i64 0, .int .i64 0, .bool false, .int .i64 0, .int .u64 0, .slice none 0 0]), 13, 120) := by kernel_rfl
theorem sl_call (W : World) (a : Cl) : Sl (W.alloc (bx a)) (some ⟨W.heap.size, 0, none⟩) (flatC [a]) := fun _ => ⟨_, _, rfl, fun j v hj => by
  unfold bx
  rw [World.cell?_alloc_new]
  have : flatC [a] = a.cells := by simp [flatC]
  rw [this] at hj
  unfold Cl.cells at hj
  simpa using hj⟩
end Go.Proofs.YtpdfmfkoopdfgaaGreatDoor.Hs
end
