/- hist.Keys. -/
import Derived.Test.YthepgdfhdkhhbaaSortOwn
import Derived.Test.YthepgdfhdkhhbaaHRight
namespace Go.Proofs.Ythepgdfhdkhhbaa
open Go.RowKit Aid

theorem int_info : (Try.prog.info? 3).map (fun i => (i.zero, i.size, i.bytes)) = some (some (.int .i64 0), 1, 8) := by kernel_rfl
theorem one_sl (w : World) (v : Value) (t : TypeId) : Sl (w.alloc (.cells #[v] t)) (some ⟨w.heap.size, 0, none⟩) [v] := fun _ => ⟨_, _, rfl, fun j u hu => by
  cases j with
  | zero => simp at hu; subst hu; rw [World.cell?_alloc_new]; rfl
  | succ j => simp at hu⟩
theorem own_any {w : World} {base : Nat} {e : TypeId} {size : Nat} {v : Value} {n : Nat} {xs : List Value} (h : w.ownsRow base e size v n xs) : ∃ A c, v = .slice A n c := by
  rcases h.2 with ⟨rfl, rfl⟩ | ⟨g, cap, cur, rfl, _⟩
  · exact ⟨none, 0, rfl⟩
  · exact ⟨_, _, rfl⟩
theorem row_below {B : Nat} {w w' : World} {base : Nat} {e : TypeId} {size : Nat} {v : Value} {n : Nat} {xs : List Value} (h : w.ownsRow base e size v n xs) (hb : Below B w w') (hB : w.heap.size ≤ B) : w'.ownsRow base e size v n xs := by
  rcases h.2 with h0 | ⟨g, cap, cur, hv, hg, hbl, r⟩
  · exact ⟨h.1, .inl h0⟩
  · have hlt : g < w.heap.size := (Array.getElem?_eq_some_iff.1 hbl).1
    exact ⟨h.1, .inr ⟨g, cap, cur, hv, hg, by rw [hb.block g (by omega)]; exact hbl, r⟩⟩
theorem grown_cell {w w' : World} {row : Option Nat} {b o : Nat} (hg : w.grownBy w' row) (hp : b < w.heap.size) (hr : row ≠ some b) : w'.cell? ⟨b, o, none⟩ = w.cell? ⟨b, o, none⟩ := by
  unfold World.cell?
  simp only []
  rw [hg.block b hp (fun e => hr e.symm)]
/-- The vertices that calls name, in their order. -/
def namesOf (l : List Cl) : List Int := l.flatMap fun a => if edgeB a.k then [a.u, a.v] else [a.u]
def keysOf (l : List Cl) : List Int := uniq (namesOf l)
theorem names_next {l : List Cl} {k : Nat} (h : k < l.length) : namesOf (l.take (k + 1)) = namesOf (l.take k) ++ (if edgeB l[k].k then [l[k].u, l[k].v] else [l[k].u]) := by
  unfold namesOf
  rw [List.take_succ_eq_append_getElem h, List.flatMap_append]
  simp
theorem names_le (l : List Cl) : (namesOf l).length ≤ 2 * l.length := by
  unfold namesOf
  induction l with
  | nil => simp
  | cons a l ih => rw [List.flatMap_cons, List.length_append, List.length_cons]; split <;> simp only [List.length_cons, List.length_nil] <;> omega
set_option maxHeartbeats 8000000 in
set_option maxRecDepth 100000 in
theorem keys_any (A : Option Addr) (c n : Nat) (l : List Cl) (w : World) (hn : n = l.length) (hl : Cls w A l) (h40 : l.length ≤ 1000) :
    Calls Try.prog 17 #[.slice A n c] w fun e w' => ∃ B d, e = .returned (.slice B (keysOf l).length d) ∧ w'.ownsRow w.heap.size 3 1 (.slice B (keysOf l).length d) (keysOf l).length ((keysOf l).map (Value.int .i64)) ∧ Below w.heap.size w w' := by
  subst hn
  have HL := Lib.hid hl
  clear hl
  obtain ⟨i0, hi0, hz0, hz1, hz2⟩ := info_parts int_info
  have hone : Hid (∀ z : Int, ∀ u ∈ [Value.int .i64 z], u.oneCell' = true) := fun z u hu => by rw [List.mem_singleton.1 hu]; rfl
  go_enter Try.func17, Try.ntmps17
  go_wp2
  go_loopw [3, 8] (fun v j wr => ∃ k : Nat, k ≤ l.length ∧ j = .int .i64 k ∧ wr.ownsRow w.heap.size 3 1 v (namesOf (l.take k)).length ((namesOf (l.take k)).map (Value.int .i64)) ∧ Below w.heap.size w wr) (fun _ j _ => l.length - (intOf j).toNat)
  case atStart => exact ⟨0, Nat.zero_le _, rfl, World.ownsRow_nil _ _ _ _, Below.refl _ _⟩
  case round =>
    obtain ⟨k, hk, rfl, ho, hb⟩ := hrel
    obtain ⟨T, tc, hT⟩ := own_any ho
    subst hT
    have HO := Lib.hid ho
    have HB := Lib.hid hb
    clear ho hb
    by_cases hlt : k < l.length
    · obtain ⟨b, off, hA, hat⟩ := (HL.out.below HB.out (Nat.le_refl _)).get (List.getElem?_eq_getElem hlt)
      obtain ⟨c0, c1, c2, c3, c4, c5, c6, c7, c8, c9, c10, c11, c12⟩ := hat
      subst hA
      have HN := Lib.hid (names_next hlt)
      have hle := Lib.hid (names_le (l.take k))
      have hle2 := Lib.hid (show (l.take k).length ≤ k from by rw [List.length_take]; omega)
      generalize namesOf (l.take k) = nr at HO HN hle ⊢
      generalize l[k] = a at c0 c1 c2 c3 c4 c5 c6 c7 c8 c9 c10 c11 c12 HN
      have k0 : (0 : Int) ≤ (k : Int) := by omega
      have k1 : (k : Int) < (l.length : Int) := by omega
      have n3 : IntKind.i64.wrap ((k : Int) + 1) = (k : Int) + 1 := by rw [IntKind.wrap_i64] <;> omega
      have b1 := hle.out
      have b2 := hle2.out
      have m1 : nr.length + 1 ≤ maxLen := by unfold maxLen; omega
      have y1 : (nr.length + 1) * 8 ≤ 140737488355328 := by omega
      have m2 : nr.length + 1 + 1 ≤ maxLen := by unfold maxLen; omega
      have y2 : (nr.length + 1 + 1) * 8 ≤ 140737488355328 := by omega
      clear b1 b2
      have HA := Lib.hid (HB.out.alloc HB.out.size (bx a))
      have HA2 := Lib.hid (HA.out.alloc HA.out.size (.cells #[.int .i64 a.u] 3))
      have HOA := Lib.hid ((HO.out.alloc (bx a)).alloc (.cells #[.int .i64 a.u] 3))
      have HS1 := Lib.hid (show Sl ((wr.alloc (bx a)).alloc (.cells #[.int .i64 a.u] 3)) (some ⟨wr.heap.size + 1, 0, none⟩) [.int .i64 a.u] from by
        have := one_sl (wr.alloc (bx a)) (.int .i64 a.u) 3
        rwa [World.size_alloc] at this)
      have AB := Lib.hid ((at_box wr a).below ((Below.refl _ _).alloc (Nat.le_refl _) (.cells #[.int .i64 a.u] 3)) (Nat.le_refl _))
      have hbs : Hid (wr.heap.size < ((wr.alloc (bx a)).alloc (.cells #[.int .i64 a.u] 3)).heap.size) := Lib.hid (by rw [World.size_alloc, World.size_alloc]; omega)
      have hne : Hid ((Value.slice T nr.length tc).ownBlock ≠ some wr.heap.size) := Lib.hid (fun e => by have := (HO.out.lt _ e).2; omega)
      cases he : edgeB a.k
      · have HE : Hid (∀ W, Calls Try.prog 30 #[.int .i64 a.k] W fun e w' => e = .returned (.bool false) ∧ W = w') := Lib.hid fun W => by have := edge_any a.k W; rw [he] at this; exact this
        rw [he] at HN
        clear he
        unfold bx at HA HA2 HOA HS1 AB hbs
        go_wp2_with (first
          | (at_builtin
             refine wpList_append_sl _ rfl (.tmp 12) (.tmp 16) 26 rfl w.heap.size 3 i0 _ 1 8 Try.underlying26 hi0 hz0 hz1 hz2 rfl Nat.one_pos _ nr.length _ rfl HOA.out (some ⟨wr.heap.size + 1, 0, none⟩) 1 1 [.int .i64 a.u] rfl rfl HS1.out (hone.out _) m1 y1 HA2.out.size (nr.length + 1) rfl ?_
             intro A5 c5 w5 hown5 hb5 hg5 _
             have HO5 := Lib.hid hown5
             have HB5 := Lib.hid (HA2.out.trans hb5)
             have g1 := (grown_cell (o := 1) hg5 hbs.out hne.out).trans AB.out.2.1
             clear hown5 hb5 hg5)
          | (go_at_call 30; ((with_reducible refine (HE.out _).mono ?_); rintro e w' ⟨rfl, rfl⟩)))
        go_roundw
        case rel => exact ⟨k + 1, by omega, by go_num, by rw [HN.out]; simpa using HO5.out, HB5.out⟩
        case measure => simp [intOf]; omega
      · have HE : Hid (∀ W, Calls Try.prog 30 #[.int .i64 a.k] W fun e w' => e = .returned (.bool true) ∧ W = w') := Lib.hid fun W => by have := edge_any a.k W; rw [he] at this; exact this
        rw [he] at HN
        clear he
        unfold bx at HA HA2 HOA HS1 AB hbs
        go_wp2_with (first
          | (at_builtin
             refine wpList_append_sl _ rfl (.tmp 12) (.tmp 16) 26 rfl w.heap.size 3 i0 _ 1 8 Try.underlying26 hi0 hz0 hz1 hz2 rfl Nat.one_pos _ nr.length _ rfl HOA.out (some ⟨wr.heap.size + 1, 0, none⟩) 1 1 [.int .i64 a.u] rfl rfl HS1.out (hone.out _) m1 y1 HA2.out.size (nr.length + 1) rfl ?_
             intro A5 c5 w5 hown5 hb5 hg5 _
             have HO5 := Lib.hid hown5
             have HB5 := Lib.hid (HA2.out.trans hb5)
             have g1 := (grown_cell (o := 1) hg5 hbs.out hne.out).trans AB.out.2.1
             have g3 := (grown_cell (o := 3) hg5 hbs.out hne.out).trans AB.out.2.2.2.1
             have HS2 := Lib.hid (one_sl w5 (.int .i64 a.v) 3)
             have HB6 := Lib.hid (HB5.out.alloc HB5.out.size (.cells #[.int .i64 a.v] 3))
             have HO6 := Lib.hid (HO5.out.alloc (.cells #[.int .i64 a.v] 3))
             clear hown5 hb5 hg5)
          | (go_at_call 30; ((with_reducible refine (HE.out _).mono ?_); rintro e w' ⟨rfl, rfl⟩))
          | (at_builtin
             refine wpList_append_sl _ rfl (.tmp 22) (.tmp 26) 26 rfl w.heap.size 3 i0 _ 1 8 Try.underlying26 hi0 hz0 hz1 hz2 rfl Nat.one_pos _ (nr.length + 1) _ rfl HO6.out (some ⟨w5.heap.size, 0, none⟩) 1 1 [.int .i64 a.v] rfl rfl HS2.out (hone.out _) m2 y2 HB6.out.size (nr.length + 1 + 1) rfl ?_
             intro A7 c7 w7 hown7 hb7 _ _
             have HO7 := Lib.hid hown7
             have HB7 := Lib.hid (HB6.out.trans hb7)
             clear hown7 hb7))
        go_roundw
        case rel => exact ⟨k + 1, by omega, by go_num, by rw [HN.out]; simpa using HO7.out, HB7.out⟩
        case measure => simp [intOf]; omega
    · obtain rfl : k = l.length := by omega
      rw [List.take_length] at HO ⊢
      have hle := Lib.hid (names_le l)
      have DS := Lib.hid (sort_own w.heap.size T _ tc (namesOf l) wr HO.out HB.out.size (by have := hle.out; omega))
      have hsl := Lib.hid (sorted_length (namesOf l))
      go_wp2_with (first
        | (go_at_call 31; ((with_reducible refine DS.out.mono ?_); rintro e w1 ⟨rfl, ho1, hb1⟩; have HB1 := Lib.hid (HB.out.trans hb1); have D2 := Lib.hid (compact_own w.heap.size T _ tc (sorted (namesOf l)) w1 ho1 (Nat.le_trans hle.out (Nat.le_trans (Nat.mul_le_mul_left 2 h40) (by decide)))); clear ho1 hb1))
        | (go_at_call 32; ((with_reducible refine D2.out.mono ?_); rintro e w2 ⟨rfl, ho2, hb2⟩; have HO2 := Lib.hid ho2; have HB2 := Lib.hid (HB1.out.trans hb2); clear ho2 hb2)))
      go_ret
      exact ⟨_, _, rfl, HO2.out, HB2.out⟩
end Go.Proofs.Ythepgdfhdkhhbaa
