/- Numbers as bytes: frame.laid, frame.number; bytes.Clone. -/
import Derived.Test.YtlbaedgmbdljpaaDoorWalks
import Derived.Test.YtlbaedgmbdljpaaDoorAid
import Derived.Deep.RegionWith
import Derived.WalkSpells
import Derived.Maps.Range
namespace Go.Proofs.YtlbaedgmbdljpaaDoor
open Go.RowKit Aid
theorem byte_info : (Tryd.prog.info? 5).map (fun i => (i.zero, i.size, i.bytes)) = some (some (.int .u8 0), 1, 1) := by kernel_rfl
theorem Bytes.sl {w : World} {A : Option Addr} {l : List Int} (h : Bytes w A l) : Sl w A (l.map (Value.int .u8)) := fun hp => by
  rw [List.length_map] at hp
  obtain ⟨b, off, hA, hc⟩ := h.2.2 hp
  refine ⟨b, off, hA, fun j u hu => ?_⟩
  rw [List.getElem?_map, Option.map_eq_some_iff] at hu
  obtain ⟨x, hx, rfl⟩ := hu
  have hj : j < l.length := (List.getElem?_eq_some_iff.1 hx).1
  rw [hc j hj, List.getD_eq_getElem?_getD, hx]; rfl
theorem Bytes.of_sl {w : World} {A : Option Addr} {l : List Int} (h : Sl w A (l.map (Value.int .u8))) (hl : l.length ≤ 9223372036854775807) (hb : ∀ n ∈ l, 0 ≤ n ∧ n < 256) : Bytes w A l :=
  ⟨hl, hb, fun hp => by
    obtain ⟨b, off, hA, hc⟩ := h (by simpa using hp)
    refine ⟨b, off, hA, fun i hi => hc i _ ?_⟩
    rw [List.getElem?_map, List.getElem?_eq_getElem hi, List.getD_eq_getElem?_getD, List.getElem?_eq_getElem hi]; rfl⟩
theorem one_sl (w : World) (v : Value) (t : TypeId) : Sl (w.alloc (.cells #[v] t)) (some ⟨w.heap.size, 0, none⟩) [v] := fun _ => ⟨_, _, rfl, fun j u hu => by
  cases j with
  | zero => simp at hu; subst hu; simp [World.cell?_alloc_new]
  | succ j => simp at hu⟩
def bytesOf (x : Int) (k : Nat) : List Int := (List.range k).map (fun i => x / 256 ^ i % 256)
theorem bytesOf_succ (x : Int) (k : Nat) (xs : List Value) (y : Int) (h : x / 256 ^ k % 256 = y) : (xs ++ (bytesOf x k).map (Value.int .u8)) ++ [Value.int .u8 y] = xs ++ (bytesOf x (k + 1)).map (Value.int .u8) := by
  unfold bytesOf; rw [List.range_succ]; simp [h]
set_option maxHeartbeats 1000000 in
theorem laid_any (x : Int) (base : Nat) (v : Value) (n : Nat) (xs : List Value) (w : World) (hb : base ≤ w.heap.size) (hn : n ≤ 100000) (hown : w.ownsRow base 5 1 v n xs) (k : Nat) (hk : k ≤ 4) :
    Calls Tryd.prog 15 #[v, .int .u64 x, .int .i64 k] w fun e w' => ∃ A c, e = .returned (.slice A (n + k) c) ∧ w'.ownsRow base 5 1 (.slice A (n + k) c) (n + k) (xs ++ (bytesOf x k).map (Value.int .u8)) ∧ Below base w w' := by
  have HO := Lib.hid hown
  have hl2 : Hid (∀ j, j < k → n + j + 1 ≤ maxLen) := fun j hj => by unfold maxLen; omega
  have hl3 : Hid (∀ j, j < k → (n + j + 1) * 1 ≤ 140737488355328) := fun j hj => by omega
  have hone : Hid (∀ y : Int, ∀ u ∈ [Value.int .u8 y], u.oneCell' = true) := fun y u hu => by rw [List.mem_singleton.1 hu]; rfl
  have hsz : Hid (∀ (wr : World) (o : Obj), Below base w wr → base ≤ (wr.alloc o).heap.size) := fun wr o h => by rw [World.size_alloc]; have := h.size; omega
  have hbb := Lib.hid hb
  clear hown hb
  obtain ⟨i0, hi0, hz0, hz1, hz2⟩ := info_parts byte_info
  go_enter Tryd.func15, Tryd.ntmps15
  go_wp2
  go_loopw [0, 9] (fun u i wr => ∃ j : Nat, j ≤ k ∧ i = .int .i64 j ∧ wr.ownsRow base 5 1 u (n + j) (xs ++ (bytesOf x j).map (Value.int .u8)) ∧ Below base w wr) (fun _ i _ => k - (intOf i).toNat)
  case atStart => exact ⟨0, Nat.zero_le _, rfl, by simpa [bytesOf] using HO.out, Below.refl _ _⟩
  case round =>
    obtain ⟨j, hj, rfl, ho, hB⟩ := hrel
    have HO := Lib.hid ho
    have HB := Lib.hid hB
    clear ho hB
    by_cases hlt : j < k
    · have h63 := hl2.out j hlt
      have hby := hl3.out j hlt
      have : j = 0 ∨ j = 1 ∨ j = 2 ∨ j = 3 := by omega
      rcases this with rfl | rfl | rfl | rfl
      · go_wp2_with (
          at_builtin
          refine wpList_append_sl _ rfl (.tmp 12) (.tmp 18) 22 rfl base 5 i0 _ 1 1 Tryd.underlying22 hi0 hz0 hz1 hz2 rfl Nat.one_pos _ (n + 0) _ rfl (HO.out.alloc _) (some ⟨wr.heap.size, 0, none⟩) 1 1 [.int .u8 (x % 256)] rfl rfl (one_sl wr _ 5) (hone.out _) h63 hby (hsz.out _ _ HB.out) (n + 0 + 1) rfl ?_
          intro A2 c2 w2 hown2 hb2 _ _
          have HO2 := Lib.hid hown2
          have HB2 := Lib.hid (HB.out.trans (((Below.refl base wr).alloc (Nat.le_trans hbb.out HB.out.size) _).trans hb2))
          clear hown2 hb2)
        go_roundw
        case rel => exact ⟨1, by omega, by go_num, by have := HO2.out; rwa [bytesOf_succ x 0 xs _ (by simp)] at this, HB2.out⟩
        case measure => simp [intOf]; omega
      · go_wp2_with (
          at_builtin
          refine wpList_append_sl _ rfl (.tmp 12) (.tmp 18) 22 rfl base 5 i0 _ 1 1 Tryd.underlying22 hi0 hz0 hz1 hz2 rfl Nat.one_pos _ (n + 1) _ rfl (HO.out.alloc _) (some ⟨wr.heap.size, 0, none⟩) 1 1 [.int .u8 (x / 256 % 256)] rfl rfl (one_sl wr _ 5) (hone.out _) h63 hby (hsz.out _ _ HB.out) (n + 1 + 1) rfl ?_
          intro A2 c2 w2 hown2 hb2 _ _
          have HO2 := Lib.hid hown2
          have HB2 := Lib.hid (HB.out.trans (((Below.refl base wr).alloc (Nat.le_trans hbb.out HB.out.size) _).trans hb2))
          clear hown2 hb2)
        go_roundw
        case rel => exact ⟨2, by omega, by go_num, by have := HO2.out; rwa [bytesOf_succ x 1 xs _ (by simp)] at this, HB2.out⟩
        case measure => simp [intOf]; omega
      · go_wp2_with (
          at_builtin
          refine wpList_append_sl _ rfl (.tmp 12) (.tmp 18) 22 rfl base 5 i0 _ 1 1 Tryd.underlying22 hi0 hz0 hz1 hz2 rfl Nat.one_pos _ (n + 2) _ rfl (HO.out.alloc _) (some ⟨wr.heap.size, 0, none⟩) 1 1 [.int .u8 (x / 65536 % 256)] rfl rfl (one_sl wr _ 5) (hone.out _) h63 hby (hsz.out _ _ HB.out) (n + 2 + 1) rfl ?_
          intro A2 c2 w2 hown2 hb2 _ _
          have HO2 := Lib.hid hown2
          have HB2 := Lib.hid (HB.out.trans (((Below.refl base wr).alloc (Nat.le_trans hbb.out HB.out.size) _).trans hb2))
          clear hown2 hb2)
        go_roundw
        case rel => exact ⟨3, by omega, by go_num, by have := HO2.out; rwa [bytesOf_succ x 2 xs _ (by simp)] at this, HB2.out⟩
        case measure => simp [intOf]; omega
      · go_wp2_with (
          at_builtin
          refine wpList_append_sl _ rfl (.tmp 12) (.tmp 18) 22 rfl base 5 i0 _ 1 1 Tryd.underlying22 hi0 hz0 hz1 hz2 rfl Nat.one_pos _ (n + 3) _ rfl (HO.out.alloc _) (some ⟨wr.heap.size, 0, none⟩) 1 1 [.int .u8 (x / 16777216 % 256)] rfl rfl (one_sl wr _ 5) (hone.out _) h63 hby (hsz.out _ _ HB.out) (n + 3 + 1) rfl ?_
          intro A2 c2 w2 hown2 hb2 _ _
          have HO2 := Lib.hid hown2
          have HB2 := Lib.hid (HB.out.trans (((Below.refl base wr).alloc (Nat.le_trans hbb.out HB.out.size) _).trans hb2))
          clear hown2 hb2)
        go_roundw
        case rel => exact ⟨4, by omega, by go_num, by have := HO2.out; rwa [bytesOf_succ x 3 xs _ (by simp)] at this, HB2.out⟩
        case measure => simp [intOf]; omega
    · obtain rfl : j = k := by omega
      rcases own_form HO.out with ⟨rfl, h0, _⟩ | ⟨g, cap, rfl, _⟩
      · have h1 : n + j = 0 := h0
        have hz : Hid (Value.slice none 0 0 = .slice none (n + j) 0) := by rw [h1]; exact rfl
        go_wp2
        go_ret
        exact ⟨none, 0, congrArg Ending.returned hz.out, by have := HO.out; rwa [hz.out] at this, HB.out⟩
      · go_wp2
        go_ret
        exact ⟨_, _, rfl, HO.out, HB.out⟩

/-- The number of bytes, the lowest first. -/
def num : List Int → Int
  | [] => 0
  | x :: r => x + 256 * num r
theorem num_bound : ∀ (l : List Int), (∀ n ∈ l, 0 ≤ n ∧ n < 256) → 0 ≤ num l ∧ num l < 256 ^ l.length
  | [], _ => by simp [num]
  | x :: r, h => by
    have h1 := h x (by simp)
    have h2 := num_bound r (fun n hn => h n (by simp [hn]))
    simp only [num, List.length_cons, Int.pow_succ]
    omega
theorem num_drop {l : List Int} {k : Nat} (h : k < l.length) : num (l.drop k) = l.getD k 0 + 256 * num (l.drop (k + 1)) := by
  rw [List.drop_eq_getElem_cons h, num, List.getD_eq_getElem?_getD, List.getElem?_eq_getElem h]; rfl
theorem or_byte (S y : Int) (h0 : 0 ≤ S) (h1 : S < 72057594037927936) (y0 : 0 ≤ y) (y1 : y < 256) : bits .or .u64 (IntKind.u64.wrap (S * 256)) y = y + 256 * S := by
  obtain ⟨s, rfl⟩ := Int.eq_ofNat_of_zero_le h0
  obtain ⟨b, rfl⟩ := Int.eq_ofNat_of_zero_le y0
  rw [IntKind.wrap_u64, Int.emod_eq_of_lt (by omega) (by omega), show ((s : Int) * 256) = ((256 * s : Nat) : Int) from by omega, u64_or_nat _ _ (by omega) (by omega)]
  rw [show 256 * s = 2 ^ 8 * s from by omega, ← Nat.two_pow_add_eq_or_of_lt (by omega : b < 2 ^ 8)]
  omega
theorem pow_mono (a b : Nat) (h : a ≤ b) : (256 : Int) ^ a ≤ 256 ^ b := by
  obtain ⟨c, rfl⟩ := Nat.exists_eq_add_of_le h
  rw [Int.pow_add]
  have h1 : (0 : Int) < 256 ^ a := Int.pow_pos (by omega)
  have h2 : (0 : Int) < 256 ^ c := Int.pow_pos (by omega)
  calc (256 : Int) ^ a = 256 ^ a * 1 := by omega
    _ ≤ 256 ^ a * 256 ^ c := Int.mul_le_mul_of_nonneg_left (by omega) (by omega)
attribute [irreducible] num
theorem number_any (A : Option Addr) (c : Nat) (l : List Int) (w : World) (hl : Bytes w A l) (h8 : l.length ≤ 8) :
    Calls Tryd.prog 22 #[.slice A l.length c] w fun e w' => e = .returned (.int .u64 (num l)) ∧ w = w' := by
  obtain ⟨hm, hb, hc⟩ := hl
  have HC := Lib.hid hc
  have HB := Lib.hid hb
  clear hc hb
  go_enter Tryd.func22, Tryd.ntmps22
  go_wp2
  go_loop [3, 4] (fun s i => ∃ k : Nat, k ≤ l.length ∧ i = .int .i64 ((k : Int) - 1) ∧ s = .int .u64 (num (l.drop k))) (fun _ i => (intOf i + 1).toNat)
  case atStart => exact ⟨l.length, Nat.le_refl _, rfl, by rw [List.drop_length]; unfold num; rfl⟩
  case round =>
    obtain ⟨k, hk, rfl, rfl⟩ := hrel
    cases k with
    | zero =>
      go_wp2
      go_ret
      exact ⟨rfl, rfl⟩
    | succ k =>
      obtain ⟨b, off, hA, hcs⟩ := HC.out (by omega)
      have hcell := hcs k hk
      clear hcs
      subst hA
      have hmem := HB.out (l.getD k 0) (getD_mem hk)
      have hd := Lib.hid (num_drop hk)
      have hnb := Lib.hid (num_bound (l.drop (k + 1)) (fun n hn => HB.out n (List.mem_of_mem_drop hn)))
      generalize l.getD k 0 = y at hcell hmem hd
      obtain ⟨hy0, hy1⟩ := hmem
      have hi : Hid (((k + 1 : Nat) : Int) - 1 = k) := by show _ = _; omega
      rw [hi.out]
      go_wp2
      go_round
      case rel =>
        have hp : (256 : Int) ^ (l.drop (k + 1)).length ≤ 256 ^ 7 := pow_mono _ _ (by rw [List.length_drop]; omega)
        exact ⟨k, by omega, rfl, by rw [or_byte _ _ hnb.out.1 (by have := hnb.out.2; omega) hy0 hy1, hd.out]⟩
      case measure => simp [intOf]

theorem nil_run (w : World) : w.ownsRow w.heap.size 5 1 (.slice none 0 0) 0 [] := World.ownsRow_nil _ _ _ _
theorem row_mono {w : World} {base base' : Nat} {e : TypeId} {v : Value} {n : Nat} {xs : List Value} (h : w.ownsRow base e 1 v n xs) (hb : base' ≤ base) : w.ownsRow base' e 1 v n xs := by
  obtain ⟨h1, h2⟩ := h
  refine ⟨h1, ?_⟩
  rcases h2 with h2 | ⟨g, cap, cur, hv, hg, h3⟩
  · exact .inl h2
  · exact .inr ⟨g, cap, cur, hv, Nat.le_trans hb hg, h3⟩
/-- bytes.Clone of bytes: a row of the call's own. -/
theorem clone_any (base : Nat) (A : Option Addr) (c : Nat) (l : List Int) (w : World) (hb : base ≤ w.heap.size) (hl : Bytes w A l) (h0 : 0 < l.length) (h1 : l.length ≤ 70000) :
    Calls Tryd.prog 23 #[.slice A l.length c] w fun e w' => ∃ g c', e = .returned (.slice (some ⟨g, 0, none⟩) l.length c') ∧ w'.ownsRow base 5 1 (.slice (some ⟨g, 0, none⟩) l.length c') l.length (l.map (Value.int .u8)) ∧ w.heap.size ≤ g ∧ w.grownBy w' none := by
  obtain ⟨b, off, rfl, hc⟩ := hl.2.2 h0
  have HL := Lib.hid hl
  have HB := Lib.hid hb
  have hl1 := Lib.hid (show (l.map (Value.int .u8)).length = l.length * 1 from by simp)
  have hz := Lib.hid (show l.length = 0 + l.length from by simp)
  have hl2 : 0 + l.length ≤ maxLen := by unfold maxLen; omega
  have hl3 : (0 + l.length) * 1 ≤ 140737488355328 := by omega
  have hs1 := Lib.hid (show w.heap.size ≤ (w.alloc (.cells #[] 5)).heap.size from by rw [World.size_alloc]; omega)
  clear hl hb hc
  obtain ⟨i0, hi0, hz0, hz1, hz2⟩ := info_parts byte_info
  have qn : ∀ (w : World) (a : Option Addr) (n c : Nat), (binOp .eql 22 (.slice a n c) (.slice none 0 0)).run Tryd.prog w = .ok (.bool a.isNone) w := fun w a n c => Lib.run_eql_slice_nil w 22 5 a n c 0 0 Tryd.underlying22
  go_enter Tryd.func23, Tryd.ntmps23
  go_wp2_with (
    at_builtin
    refine wpList_append_sl _ rfl (.tmp 5) (.tmp 6) 22 rfl w.heap.size 5 i0 _ 1 1 Tryd.underlying22 hi0 hz0 hz1 hz2 rfl Nat.one_pos _ 0 [] rfl (World.ownsRow_made w #[] 0 (Nat.le_refl _) (Nat.zero_le _) rfl) (some ⟨b, off, none⟩) l.length c (l.map (Value.int .u8)) rfl hl1.out (HL.out.sl.below ((Below.refl _ _).alloc (Nat.le_refl _) _) (Nat.le_refl _)) (ints_one _ _) hl2 hl3 hs1.out l.length hz.out ?_
    intro A2 c2 w2 hown2 hb2 hg2 he2
    have HO2 := Lib.hid hown2
    have HB2 := Lib.hid hb2
    have HG2 := Lib.hid hg2
    clear hown2 hb2 hg2 he2)
  go_ret
  rcases own_form HO2.out with ⟨_, h, _⟩ | ⟨g, cap, hv, hg, _⟩
  · omega
  · injection hv with hA
    subst hA
    exact ⟨g, _, rfl, row_mono HO2.out HB.out, hg, World.grownBy.andThen (World.grownBy_alloc w _ none) HG2.out (fun j hj => .inl (Nat.le_of_eq (Option.some.inj (show some w.heap.size = some j from hj))))⟩
end Go.Proofs.YtlbaedgmbdljpaaDoor
