/- GNear. -/
import Derived.Test.YtpdfmfkoopdfgaaGreatDoorB05
import Derived.Test.YtpdfmfkoopdfgaaGreatDoorB06
set_option linter.unusedVariables false
set_option linter.unusedSimpArgs false
namespace Go.Proofs.YtpdfmfkoopdfgaaGreatDoor.Gr
set_option maxRecDepth 100000
open Go.RowKit Aid

theorem int_info : (Tryz.prog.info? 3).map (fun i => (i.zero, i.size, i.bytes)) = some (some (.int .i64 0), 1, 8) := by kernel_rfl
theorem one_sl (w : World) (v : Value) (t : TypeId) : Sl (w.alloc (.cells #[v] t)) (some ⟨w.heap.size, 0, none⟩) [v] := fun _ => ⟨_, _, rfl, fun j u hu => by
  cases j with
  | zero => simp at hu; subst hu; simp [World.cell?_alloc_new]
  | succ j => simp at hu⟩
theorem own_any {w : World} {base : Nat} {e : TypeId} {v : Value} {n : Nat} {xs : List Value} (h : w.ownsRow base e 1 v n xs) : ∃ A c, v = .slice A n c := by
  rcases own_form h with ⟨rfl, rfl, _⟩ | ⟨g, cap, rfl, _⟩
  · exact ⟨none, 0, rfl⟩
  · exact ⟨_, _, rfl⟩
theorem row_below {B : Nat} {w w' : World} {base : Nat} {e : TypeId} {size : Nat} {v : Value} {n : Nat} {xs : List Value} (h : w.ownsRow base e size v n xs) (hb : Below B w w') (hB : w.heap.size ≤ B) : w'.ownsRow base e size v n xs := by
  obtain ⟨h1, h2⟩ := h
  refine ⟨h1, ?_⟩
  rcases h2 with h2 | ⟨g, cap, cur, hv, hg, h3, h4⟩
  · exact .inl h2
  · exact .inr ⟨g, cap, cur, hv, hg, (hb.block g (Nat.lt_of_lt_of_le (Array.getElem?_eq_some_iff.1 h3).1 hB)).trans h3, h4⟩
def isNear (u : Int) (a : Arc) : Bool := decide (a.u = u ∧ 0 ≤ a.v)
def near (l : List Arc) (u : Int) : List Int := (l.filter (isNear u)).map Arc.v
theorem near_next {l : List Arc} {u : Int} {k : Nat} (h : k < l.length) : near (l.take (k + 1)) u = near (l.take k) u ++ (if isNear u l[k] then [l[k].v] else []) := by
  unfold near
  rw [List.take_succ_eq_append_getElem h, List.filter_append, List.map_append]
  congr 1
  cases hx : isNear u l[k] <;> simp [hx]
theorem near_le (l : List Arc) (u : Int) : (near l u).length ≤ l.length := by unfold near; rw [List.length_map]; exact List.length_filter_le _ _
set_option maxHeartbeats 2000000 in
theorem near_any (A : Option Addr) (c n : Nat) (l : List Arc) (u : Int) (w : World) (hn : n = l.length) (hl : Arcs w A l) (h40 : l.length ≤ 1000) :
    Calls Tryz.prog 121 #[.slice A n c, .int .i64 u] w fun e w' => ∃ B d, e = .returned (.slice B (near l u).length d) ∧ w'.ownsRow w.heap.size 3 1 (.slice B (near l u).length d) (near l u).length ((near l u).map (Value.int .i64)) ∧ Below w.heap.size w w' := by
  subst hn
  have HL := Lib.hid hl
  clear hl
  obtain ⟨i0, hi0, hz0, hz1, hz2⟩ := info_parts int_info
  have hone : Hid (∀ z : Int, ∀ u ∈ [Value.int .i64 z], u.oneCell' = true) := fun z u hu => by rw [List.mem_singleton.1 hu]; rfl
  go_enter Tryz.func121, Tryz.ntmps121
  go_wp2
  go_loopw [5, 10] (fun v i wr => ∃ k : Nat, k ≤ l.length ∧ i = .int .i64 k ∧ wr.ownsRow w.heap.size 3 1 v (near (l.take k) u).length ((near (l.take k) u).map (Value.int .i64)) ∧ Below w.heap.size w wr) (fun _ i _ => l.length - (intOf i).toNat)
  case atStart => exact ⟨0, Nat.zero_le _, rfl, World.ownsRow_nil _ _ _ _, Below.refl _ _⟩
  case round =>
    obtain ⟨k, hk, rfl, ho, hb⟩ := hrel
    obtain ⟨T, tc, hT⟩ := own_any ho
    subst hT
    have HO := Lib.hid ho
    have HB := Lib.hid hb
    clear ho hb
    by_cases hlt : k < l.length
    · obtain ⟨b, off, hA, hcs⟩ := (HL.out.below HB.out (Nat.le_refl _)).2.2 (by omega)
      obtain ⟨c1, c2, c3⟩ := hcs k l[k] (List.getElem?_eq_getElem hlt)
      clear hcs
      subst hA
      have HN := Lib.hid (near_next (u := u) hlt)
      have hle := Lib.hid (near_le (l.take k) u)
      have hle2 := Lib.hid (show (l.take k).length ≤ k from by rw [List.length_take]; omega)
      generalize near (l.take k) u = nr at HO HN hle ⊢
      generalize l[k] = a at c1 c2 c3 HN
      have m1 : nr.length + 1 ≤ maxLen := by unfold maxLen; have := hle.out; have := hle2.out; omega
      have k1 : (nr.length + 1) * 8 ≤ 140737488355328 := by have := hle.out; have := hle2.out; omega
      cases hu : (a.u == u)
      · have hx := Lib.hid (show isNear u a = false from decide_eq_false (fun h => by simp [h.1] at hu))
        have HA := Lib.hid (HB.out.alloc HB.out.size (.cells #[.int .i64 a.u, .int .i64 a.v, .int .u64 a.w] 60))
        have HOA := Lib.hid (HO.out.alloc (.cells #[.int .i64 a.u, .int .i64 a.v, .int .u64 a.w] 60))
        go_wp2
        go_roundw
        case rel => exact ⟨k + 1, by omega, by go_num, by rw [HN.out, hx.out]; simpa using HOA.out, HA.out⟩
        case measure => simp [intOf]; omega
      · cases hv : decide (0 ≤ a.v)
        · have hx := Lib.hid (show isNear u a = false from decide_eq_false (fun h => by simp [h.2] at hv))
          have HA := Lib.hid (HB.out.alloc HB.out.size (.cells #[.int .i64 a.u, .int .i64 a.v, .int .u64 a.w] 60))
          have HOA := Lib.hid (HO.out.alloc (.cells #[.int .i64 a.u, .int .i64 a.v, .int .u64 a.w] 60))
          go_wp2
          go_roundw
          case rel => exact ⟨k + 1, by omega, by go_num, by rw [HN.out, hx.out]; simpa using HOA.out, HA.out⟩
          case measure => simp [intOf]; omega
        · have hx := Lib.hid (show isNear u a = true from decide_eq_true ⟨by simpa using hu, of_decide_eq_true hv⟩)
          have HA := Lib.hid (HB.out.alloc HB.out.size (.cells #[.int .i64 a.u, .int .i64 a.v, .int .u64 a.w] 60))
          have HA2 := Lib.hid (HA.out.alloc HA.out.size (.cells #[.int .i64 a.v] 3))
          have HS1 := Lib.hid (show Sl ((wr.alloc (.cells #[.int .i64 a.u, .int .i64 a.v, .int .u64 a.w] 60)).alloc (.cells #[.int .i64 a.v] 3)) (some ⟨wr.heap.size + 1, 0, none⟩) [.int .i64 a.v] from by
            have := one_sl (wr.alloc (.cells #[.int .i64 a.u, .int .i64 a.v, .int .u64 a.w] 60)) (.int .i64 a.v) 3
            rwa [World.size_alloc] at this)
          go_wp2_with (
            at_builtin
            refine wpList_append_sl _ rfl (.tmp 23) (.tmp 26) 33 rfl w.heap.size 3 i0 _ 1 8 Tryz.underlying33 hi0 hz0 hz1 hz2 rfl Nat.one_pos _ nr.length _ rfl ((HO.out.alloc _).alloc _) (some ⟨wr.heap.size + 1, 0, none⟩) 1 1 [.int .i64 a.v] rfl rfl HS1.out (hone.out _) m1 k1 HA2.out.size (nr.length + 1) rfl ?_
            intro A5 c5 w5 hown5 hb5 _ _
            have HO5 := Lib.hid hown5
            have HB5 := Lib.hid (HA2.out.trans hb5)
            clear hown5 hb5)
          go_roundw
          case rel => exact ⟨k + 1, by omega, by go_num, by rw [HN.out, hx.out]; simpa using HO5.out, HB5.out⟩
          case measure => simp [intOf]; omega
    · have hkl : k = l.length := by omega
      have hx := Lib.hid (show l.take k = l from by rw [hkl, List.take_length])
      rw [hx.out] at HO ⊢
      go_wp2
      go_ret
      exact ⟨_, _, rfl, HO.out, HB.out⟩
end Go.Proofs.YtpdfmfkoopdfgaaGreatDoor.Gr
