/- The walks through the check and its reference: both compute the plain check. -/
import Derived.Test.YtlbaedgmbdljpaaDoorRows
import Derived.Test.YtlbaedgmbdljpaaDoorPlain
import Derived.WalkKit
import Derived.ProofKit
import Derived.OpenShut
import Derived.Below
import Derived.Lib.Hide
import Derived.WalkLawsBesides
import Derived.Laws.BitsAllLaws
namespace Go.Proofs.YtlbaedgmbdljpaaDoor
open Go.RowKit

/-- A number as 32 bits. -/
def W (n : Int) : BitVec 32 := BitVec.ofNat 32 n.toNat
/-- 32 bits as a number. -/
def N (x : BitVec 32) : Int := (x.toNat : Int)
attribute [irreducible] N
theorem N_nonneg (x : BitVec 32) : 0 ≤ N x := by unfold N; omega
theorem N_lt (x : BitVec 32) : N x < (4294967296 : Int) := by unfold N; exact Int.ofNat_lt.2 x.isLt
theorem N_W {n : Int} (h0 : 0 ≤ n) (h1 : n < 4294967296) : N (W n) = n := by
  unfold N W; rw [BitVec.toNat_ofNat, Nat.mod_eq_of_lt (by omega)]; omega
theorem W_N (x : BitVec 32) : W (N x) = x := by
  unfold N W; apply BitVec.eq_of_toNat_eq; simp
theorem N_inj {x y : BitVec 32} (h : N x = N y) : x = y := by rw [← W_N x, ← W_N y, h]
theorem xor_N (x y : BitVec 32) : bits .xor .u32 (N x) (N y) = N (x ^^^ y) := by
  unfold N; rw [u32_xor_nat _ _ x.isLt y.isLt, BitVec.toNat_xor]
theorem and15_N (x : BitVec 32) : bits .and .u32 (N x) 15 = ((x.toNat % 16 : Nat) : Int) := by
  unfold N
  rw [show (15 : Int) = ((15 : Nat) : Int) from rfl, u32_and_nat _ _ x.isLt (by omega)]
  rw [show (15 : Nat) = 2 ^ 4 - 1 from rfl, Nat.and_two_pow_sub_one_eq_mod]
theorem div16_N (x : BitVec 32) : N x / (16 : Int) = N (x >>> 4) := by
  unfold N; rw [BitVec.toNat_ushiftRight, Nat.shiftRight_eq_div_pow]; omega
theorem div2_N (x : BitVec 32) : N x / (2 : Int) = N (x >>> 1) := by
  unfold N; rw [BitVec.toNat_ushiftRight, Nat.shiftRight_eq_div_pow]; omega
theorem tdiv2_N (x : BitVec 32) : (N x).tdiv 2 % (4294967296 : Int) = N (x >>> 1) := by
  rw [Int.tdiv_eq_ediv_of_nonneg (N_nonneg x), div2_N]
  exact Int.emod_eq_of_lt (N_nonneg _) (N_lt _)
theorem not_N (x : BitVec 32) : (4294967295 : Int) - N x = N (~~~ x) := by
  unfold N; rw [BitVec.toNat_not]; have := x.isLt; omega
theorem max_xor_N (x : BitVec 32) : bits .xor .u32 IntKind.u32.max (N x) = N (~~~ x) := by
  rw [show IntKind.u32.max = N (BitVec.allOnes 32) from by unfold N; decide, xor_N, BitVec.xor_comm, BitVec.xor_allOnes]
theorem mod2_N (x : BitVec 32) : N x % (2 : Int) = if x.getLsbD 0 then 1 else 0 := by
  unfold N
  rw [BitVec.getLsbD, Nat.testBit_zero]
  by_cases h : x.toNat % 2 = 1 <;> simp [h] <;> omega
theorem poly_N : (3988292384 : Int) = N Plain.poly := by unfold N; decide

/-- A slice of bytes that lies in memory. -/
def Bytes (w : World) (A : Option Addr) (l : List Int) : Prop :=
  l.length ≤ 9223372036854775807 ∧ (∀ n ∈ l, 0 ≤ n ∧ n < 256) ∧ (0 < l.length → ∃ b off, A = some ⟨b, off, none⟩ ∧ ∀ i, i < l.length → w.cell? ⟨b, off + i, none⟩ = some (.int .u8 (l.getD i 0)))
/-- The table of half bytes lies in memory. -/
def Tab (w : World) : Prop := ∀ k, k < 16 → w.cell? ⟨0, k, none⟩ = some (.int .u32 (N (Plain.half k)))

/-- What is gathered of the first k bytes. -/
def at_ (s : BitVec 32) (l : List Int) (k : Nat) : BitVec 32 := Plain.run s ((l.take k).map W)
theorem at_zero (s : BitVec 32) (l : List Int) : at_ s l 0 = s := rfl
theorem at_succ (s : BitVec 32) (l : List Int) (k : Nat) (h : k < l.length) : at_ s l (k + 1) = Plain.step (at_ s l k) (W (l.getD k 0)) := by
  unfold at_
  rw [List.take_succ_eq_append_getElem h, List.map_append, Plain.run_append]
  simp [Plain.run, List.getD, h]
theorem at_all (s : BitVec 32) (l : List Int) : at_ s l l.length = Plain.run s (l.map W) := by
  unfold at_; rw [List.take_length]
/-- The check as numbers. -/
def moreI (x : Int) (l : List Int) : Int := N (Plain.more (W x) (l.map W))

theorem getD_mem {l : List Int} {k : Nat} (h : k < l.length) : l.getD k 0 ∈ l := by
  rw [List.getD_eq_getElem?_getD, List.getElem?_eq_getElem h]; exact List.getElem_mem h
/-- What a round meets, by the table. -/
theorem round_table (S : BitVec 32) (y : Int) (hy0 : 0 ≤ y) (hy1 : y < 256) :
    ∃ (X Y : BitVec 32) (j1 j2 : Nat), j1 < 16 ∧ j2 < 16 ∧ bits .xor .u32 (N S) y = N X ∧ bits .and .u32 (N X) 15 = ((j1 : Nat) : Int) ∧ bits .xor .u32 (N X / 16) (N (Plain.half j1)) = N Y ∧
      bits .and .u32 (N Y) 15 = ((j2 : Nat) : Int) ∧ bits .xor .u32 (N Y / 16) (N (Plain.half j2)) = N (Plain.step S (W y)) := by
  refine ⟨S ^^^ W y, Plain.four (S ^^^ W y), (S ^^^ W y).toNat % 16, (Plain.four (S ^^^ W y)).toNat % 16, Nat.mod_lt _ (by omega), Nat.mod_lt _ (by omega), ?_, and15_N _, ?_, and15_N _, ?_⟩
  · rw [← xor_N, N_W hy0 (by omega)]
  · rw [div16_N, xor_N, ← Plain.four_table]
  · rw [div16_N, xor_N, ← Plain.four_table]; rfl

/-- crc.More. -/
theorem more_any (s : BitVec 32) (A : Option Addr) (c : Nat) (l : List Int) (w : World) (ht : Tab w) (hl : Bytes w A l) :
    Calls Tryd.prog 19 #[.int .u32 (N s), .slice A l.length c] w fun e w' => e = .returned (.int .u32 (N (Plain.more s (l.map W)))) ∧ w = w' := by
  obtain ⟨hm, hb, hc⟩ := hl
  have HC := Lib.hid hc
  have HT := Lib.hid ht
  have HB := Lib.hid hb
  clear hc ht hb
  have hs : IntKind.u32.signed = false := rfl
  have h0 := max_xor_N s
  go_enter Tryd.func19, Tryd.ntmps19
  go_wp2
  clear h0
  go_loop [5, 12] (fun s' i => ∃ (k : Nat), k ≤ l.length ∧ i = .int .i64 k ∧ s' = .int .u32 (N (at_ (~~~ s) l k))) (fun _ i => l.length - (intOf i).toNat)
  case atStart => exact ⟨0, Nat.zero_le _, rfl, rfl⟩
  case round =>
    obtain ⟨k, hk, rfl, rfl⟩ := hrel
    by_cases hlt : k < l.length
    · obtain ⟨b, off, hA, hcs⟩ := HC.out (by omega)
      have hcell := hcs k hlt
      clear hcs
      subst hA
      have hmem := HB.out (l.getD k 0) (getD_mem hlt)
      have HS := Lib.hid (at_succ (~~~ s) l k hlt)
      generalize l.getD k 0 = y at hcell hmem HS
      obtain ⟨hy0, hy1⟩ := hmem
      obtain ⟨X, Y, j1, j2, hj1, hj2, e1, e2, e3, e4, e5⟩ := round_table (at_ (~~~ s) l k) y hy0 hy1
      have t1 := HT.out j1 hj1
      have t2 := HT.out j2 hj2
      go_wp2
      go_round
      case rel => exact ⟨k + 1, by omega, by go_num, by rw [HS.out]⟩
      case measure => simp [intOf]; omega
    · obtain rfl : k = l.length := by omega
      have h1 := max_xor_N (at_ (~~~ s) l l.length)
      go_wp2
      go_ret
      exact ⟨by rw [at_all]; rfl, rfl⟩

theorem one_odd (x : BitVec 32) (h : x.getLsbD 0 = true) : Plain.one x = (x >>> 1) ^^^ Plain.poly := by unfold Plain.one; rw [h]; rfl
def ones (x : BitVec 32) : Nat → BitVec 32
  | 0 => x
  | k + 1 => Plain.one (ones x k)
theorem ones_eight (x : BitVec 32) : ones x 8 = Plain.eight x := rfl

/-- wealdref03.More. -/
theorem refMore_any (s : BitVec 32) (A : Option Addr) (c : Nat) (l : List Int) (w : World) (hl : Bytes w A l) :
    Calls Tryd.prog 20 #[.int .u32 (N s), .slice A l.length c] w fun e w' => e = .returned (.int .u32 (N (Plain.more s (l.map W)))) ∧ w = w' := by
  obtain ⟨hm, hb, hc⟩ := hl
  have HC := Lib.hid hc
  have HB := Lib.hid hb
  clear hc hb
  have n0 := N_nonneg s
  have n1 := N_lt s
  have h0 := not_N s
  go_enter Tryd.func20, Tryd.ntmps20
  go_wp2
  clear h0 n0 n1
  go_loop [5, 6] (fun s' i => ∃ (k : Nat), k ≤ l.length ∧ i = .int .i64 k ∧ s' = .int .u32 (N (at_ (~~~ s) l k))) (fun _ i => l.length - (intOf i).toNat)
  case atStart => exact ⟨0, Nat.zero_le _, rfl, rfl⟩
  case round =>
    obtain ⟨k, hk, rfl, rfl⟩ := hrel
    by_cases hlt : k < l.length
    · obtain ⟨b, off, hA, hcs⟩ := HC.out (by omega)
      have hcell := hcs k hlt
      clear hcs
      subst hA
      have hmem := HB.out (l.getD k 0) (getD_mem hlt)
      have HS := Lib.hid (at_succ (~~~ s) l k hlt)
      generalize l.getD k 0 = y at hcell hmem HS
      obtain ⟨hy0, hy1⟩ := hmem
      have e1 : bits .xor .u32 (N (at_ (~~~ s) l k)) y = N (at_ (~~~ s) l k ^^^ W y) := by rw [← xor_N, N_W hy0 (by omega)]
      go_wp2
      clear e1
      go_loop [5, 7] (fun s' i => ∃ (j : Nat), j ≤ 8 ∧ i = .int .i64 j ∧ s' = .int .u32 (N (ones (at_ (~~~ s) l k ^^^ W y) j))) (fun _ i => 8 - (intOf i).toNat)
      case atStart => exact ⟨0, Nat.zero_le _, rfl, rfl⟩
      case round =>
        obtain ⟨j, hj, rfl, rfl⟩ := hrel
        have o0 := N_nonneg (ones (at_ (~~~ s) l k ^^^ W y) j)

        have o1 := N_lt (ones (at_ (~~~ s) l k ^^^ W y) j)
        have d2 := div2_N (ones (at_ (~~~ s) l k ^^^ W y) j)
        have m2 := mod2_N (ones (at_ (~~~ s) l k ^^^ W y) j)
        by_cases hlt8 : j < 8
        · have HO : Hid (ones (at_ (~~~ s) l k ^^^ W y) (j + 1) = Plain.one (ones (at_ (~~~ s) l k ^^^ W y) j)) := rfl
          generalize ones (at_ (~~~ s) l k ^^^ W y) j = T at o0 o1 d2 m2 HO ⊢
          cases hp : T.getLsbD 0
          · simp only [hp] at m2
            have HP := Lib.hid (Plain.one_even T hp)
            clear hp
            go_wp2
            go_round
            case rel => exact ⟨j + 1, by omega, by go_num, by rw [HO.out, HP.out]; try rw [d2]⟩
            case measure => simp [intOf]; omega
          · simp only [hp] at m2
            have HP := Lib.hid (one_odd T hp)
            have x2 : bits .xor .u32 (N (T >>> 1)) 3988292384 = N ((T >>> 1) ^^^ Plain.poly) := by rw [poly_N, xor_N]
            clear hp
            go_wp2
            go_round
            case rel => exact ⟨j + 1, by omega, by go_num, by rw [HO.out, HP.out]; try rw [d2]⟩
            case measure => simp [intOf]; omega
        · obtain rfl : j = 8 := by omega
          clear o0 o1 d2 m2
          go_wp2
          go_round
          case rel => exact ⟨k + 1, by omega, by go_num, by rw [HS.out]; rfl⟩
          case measure => simp [intOf]; omega
    · obtain rfl : k = l.length := by omega
      have h1 := not_N (at_ (~~~ s) l l.length)
      have n0 := N_nonneg (at_ (~~~ s) l l.length)
      have n1 := N_lt (at_ (~~~ s) l l.length)
      go_wp2
      go_ret
      exact ⟨by rw [at_all]; rfl, rfl⟩

theorem more_at (x : Int) (s : BitVec 32) (hx : x = N s) (A : Option Addr) (c n : Nat) (l : List Int) (hn : n = l.length) (w : World) (ht : Tab w) (hl : Bytes w A l) :
    Calls Tryd.prog 19 #[.int .u32 x, .slice A n c] w fun e w' => e = .returned (.int .u32 (N (Plain.more s (l.map W)))) ∧ w = w' := by
  subst hx; subst hn; exact more_any s A c l w ht hl
theorem refMore_at (x : Int) (s : BitVec 32) (hx : x = N s) (A : Option Addr) (c n : Nat) (l : List Int) (hn : n = l.length) (w : World) (hl : Bytes w A l) :
    Calls Tryd.prog 20 #[.int .u32 x, .slice A n c] w fun e w' => e = .returned (.int .u32 (N (Plain.more s (l.map W)))) ∧ w = w' := by
  subst hx; subst hn; exact refMore_any s A c l w hl
theorem zero_N : (0 : Int) = N 0#32 := by unfold N; decide
/-- The check of bytes. -/
def sum (l : List Int) : BitVec 32 := Plain.more 0#32 (l.map W)
/-- crc.Sum, wealdref03.Sum. -/
theorem sum_at (A : Option Addr) (c n : Nat) (l : List Int) (hn : n = l.length) (w : World) (ht : Tab w) (hl : Bytes w A l) :
    Calls Tryd.prog 16 #[.slice A n c] w fun e w' => e = .returned (.int .u32 (N (sum l))) ∧ w = w' := by
  have H := Lib.hid hn
  have HT := Lib.hid ht
  have HL := Lib.hid hl
  clear hn ht hl
  go_enter Tryd.func16, Tryd.ntmps16
  go_wp2_with (go_at_call 19; refine (more_at 0 0#32 zero_N _ _ _ l H.out _ HT.out HL.out).mono ?_; rintro e w' ⟨rfl, rfl⟩)
  go_ret
  exact ⟨rfl, rfl⟩
theorem refSum_at (A : Option Addr) (c n : Nat) (l : List Int) (hn : n = l.length) (w : World) (hl : Bytes w A l) :
    Calls Tryd.prog 17 #[.slice A n c] w fun e w' => e = .returned (.int .u32 (N (sum l))) ∧ w = w' := by
  have H := Lib.hid hn
  have HL := Lib.hid hl
  clear hn hl
  go_enter Tryd.func17, Tryd.ntmps17
  go_wp2_with (go_at_call 20; refine (refMore_at 0 0#32 zero_N _ _ _ l H.out _ HL.out).mono ?_; rintro e w' ⟨rfl, rfl⟩)
  go_ret
  exact ⟨rfl, rfl⟩
end Go.Proofs.YtlbaedgmbdljpaaDoor
