/- Plain laws on floats of 64 bits: how they stand to each other is how their rungs stand. No program in sight. -/
import GoSem.Core.Float
namespace Go.Proofs.Ytmcfmikpcmbmbaa.Float
open Ieee

theorem binade_is : double.binade = 4503599627370496 := by decide
theorem inf_is : double.infRung = 9218868437227405312 := by decide
theorem sign_is : double.signWeight = 9223372036854775808 := by decide
theorem least_is : double.leastPlace = -1074 := by decide

/-- A rung's size, in least ones. -/
def V (r : Nat) : Nat := if r < 4503599627370496 then r else (4503599627370496 + r % 4503599627370496) * 2 ^ (r / 4503599627370496 - 1)
theorem V_step (r : Nat) : V r < V (r + 1) := by
  unfold V
  by_cases h1 : r + 1 < 4503599627370496
  · rw [if_pos (by omega), if_pos h1]; omega
  · rw [if_neg h1]
    by_cases h2 : r < 4503599627370496
    · rw [if_pos h2]
      obtain rfl : r = 4503599627370495 := by omega
      decide
    · rw [if_neg h2]
      by_cases h3 : r % 4503599627370496 + 1 < 4503599627370496
      · have e1 : (r + 1) / 4503599627370496 = r / 4503599627370496 := by omega
        have e2 : (r + 1) % 4503599627370496 = r % 4503599627370496 + 1 := by omega
        rw [e1, e2]
        exact Nat.mul_lt_mul_of_pos_right (by omega) (Nat.two_pow_pos _)
      · have e1 : (r + 1) / 4503599627370496 = r / 4503599627370496 + 1 := by omega
        have e2 : (r + 1) % 4503599627370496 = 0 := by omega
        have e3 : r / 4503599627370496 + 1 - 1 = (r / 4503599627370496 - 1) + 1 := by omega
        rw [e1, e2, e3, Nat.pow_succ]
        have hp := Nat.two_pow_pos (r / 4503599627370496 - 1)
        generalize 2 ^ (r / 4503599627370496 - 1) = P at hp
        have e4 : r % 4503599627370496 = 4503599627370495 := by omega
        rw [e4]
        omega
theorem V_lt {a b : Nat} (h : a < b) : V a < V b := by
  induction b with
  | zero => omega
  | succ b ih =>
    by_cases e : a = b
    · subst e; exact V_step a
    · exact Nat.lt_trans (ih (by omega)) (V_step b)
theorem V_le {a b : Nat} (h : a ≤ b) : V a ≤ V b := by
  rcases Nat.lt_or_eq_of_le h with h | rfl
  · exact Nat.le_of_lt (V_lt h)
  · exact Nat.le_refl _

/-- A word's sign, its rung. -/
def sg (x : Nat) : Bool := x / 9223372036854775808 % 2 == 1
def rg (x : Nat) : Nat := x % 9223372036854775808

theorem read_num (x : Nat) (h : rg x < 9218868437227405312) : ∃ m p, double.read x = .number (sg x) m p ∧ double.leastPlace ≤ p ∧ m * 2 ^ (p - double.leastPlace).toNat = V (rg x) := by
  unfold Format.read
  simp only [sign_is, binade_is, inf_is]
  change ∃ m p, (if rg x < 4503599627370496 then _ else _) = _ ∧ _
  unfold V
  by_cases h1 : rg x < 4503599627370496
  · rw [if_pos h1, if_pos h1]
    exact ⟨rg x, _, rfl, Int.le_refl _, by simp⟩
  · rw [if_neg h1, if_neg h1]
    change ∃ m p, (if rg x < 9218868437227405312 then _ else _) = _ ∧ _
    rw [if_pos h]
    refine ⟨_, _, rfl, by omega, ?_⟩
    have : (double.leastPlace + ((x % 9223372036854775808 / 4503599627370496 - 1 : Nat) : Int) - double.leastPlace).toNat = rg x / 4503599627370496 - 1 := by unfold rg; omega
    rw [this]; rfl
theorem read_inf (x : Nat) (h : rg x = 9218868437227405312) : double.read x = .infinity (sg x) := by
  unfold Format.read
  simp only [sign_is, binade_is, inf_is]
  unfold rg at h
  rw [if_neg (by omega), if_neg (by omega), if_pos h]; rfl
theorem read_nan (x : Nat) (h : 9218868437227405312 < rg x) : ∃ n, double.read x = .nan (sg x) n := by
  unfold Format.read
  simp only [sign_is, binade_is, inf_is]
  unfold rg at h
  rw [if_neg (by omega), if_neg (by omega), if_neg (by omega)]; exact ⟨_, rfl⟩

/-- Where a word stands: its rung, with its sign. -/
def key (x : Nat) : Int := if sg x then -(rg x : Int) else rg x
def sv (x : Nat) : Int := if sg x then -(V (rg x) : Int) else V (rg x)

theorem compare_scale (a b : Int) (k : Nat) (hk : 0 < k) : compare (a * k) (b * k) = compare a b := by
  have hk' : (0 : Int) < k := by omega
  rcases Int.lt_trichotomy a b with h | rfl | h
  · have : a * k < b * k := Int.mul_lt_mul_of_pos_right h hk'
    rw [Int.compare_eq_lt.2 h, Int.compare_eq_lt.2 this]
  · rw [Int.compare_eq_eq.2 rfl, Int.compare_eq_eq.2 rfl]
  · have : b * k < a * k := Int.mul_lt_mul_of_pos_right h hk'
    rw [Int.compare_eq_gt.2 h, Int.compare_eq_gt.2 this]
theorem signed_scale (s : Bool) (m u k : Nat) : signed s m u * ((2 ^ k : Nat) : Int) = signed s m (u + k) := by
  unfold signed
  rw [Nat.shiftLeft_eq, Nat.shiftLeft_eq, Nat.pow_add]
  cases s
  · simp [Int.mul_assoc]
  · simp; rw [Int.neg_mul, Int.mul_assoc]
theorem V_pos {r : Nat} (h : 0 < r) : 0 < V r := by have := V_lt h; omega
theorem sv_key (x y : Nat) : compare (sv x) (sv y) = compare (key x) (key y) := by
  have hz : V 0 = 0 := by decide
  have hlt : ∀ {a b : Nat}, a < b → (V a : Int) < V b := fun h => Int.ofNat_lt.2 (V_lt h)
  have hle : ∀ {a b : Nat}, a ≤ b → (V a : Int) ≤ V b := fun h => Int.ofNat_le.2 (V_le h)
  unfold sv key
  rcases Nat.lt_trichotomy (rg x) (rg y) with h | h | h
  · have h1 := hlt h
    have h2 : (0 : Int) ≤ V (rg x) := by omega
    cases sg x <;> cases sg y
    · rw [Int.compare_eq_lt.2 (by simpa using h1), Int.compare_eq_lt.2 (by simp; omega)]
    · rw [Int.compare_eq_gt.2 (by simp; omega), Int.compare_eq_gt.2 (by simp; omega)]
    · rw [Int.compare_eq_lt.2 (by simp; omega), Int.compare_eq_lt.2 (by simp; omega)]
    · rw [Int.compare_eq_gt.2 (by simp; omega), Int.compare_eq_gt.2 (by simp; omega)]
  · rw [h]
    by_cases h0 : rg y = 0
    · rw [h0, hz]
      try (cases sg x <;> cases sg y <;> rfl)
    · have := V_pos (show 0 < rg y by omega)
      cases sg x <;> cases sg y
      · rw [Int.compare_eq_eq.2 rfl, Int.compare_eq_eq.2 rfl]
      · rw [Int.compare_eq_gt.2 (by simp; omega), Int.compare_eq_gt.2 (by simp; omega)]
      · rw [Int.compare_eq_lt.2 (by simp; omega), Int.compare_eq_lt.2 (by simp; omega)]
      · rw [Int.compare_eq_eq.2 rfl, Int.compare_eq_eq.2 rfl]
  · have h1 := hlt h
    have h2 : (0 : Int) ≤ V (rg y) := by omega
    cases sg x <;> cases sg y
    · rw [Int.compare_eq_gt.2 (by simpa using h1), Int.compare_eq_gt.2 (by simp; omega)]
    · rw [Int.compare_eq_gt.2 (by simp; omega), Int.compare_eq_gt.2 (by simp; omega)]
    · rw [Int.compare_eq_lt.2 (by simp; omega), Int.compare_eq_lt.2 (by simp; omega)]
    · rw [Int.compare_eq_lt.2 (by simp; omega), Int.compare_eq_lt.2 (by simp; omega)]

theorem signed_V {s : Bool} {m : Nat} {p base : Int} (hb : double.leastPlace ≤ base) (hp : base ≤ p) (V' : Nat) (hm : m * 2 ^ (p - double.leastPlace).toNat = V') :
    signed s m (p - base).toNat * ((2 ^ (base - double.leastPlace).toNat : Nat) : Int) = if s then -(V' : Int) else V' := by
  rw [signed_scale, show (p - base).toNat + (base - double.leastPlace).toNat = (p - double.leastPlace).toNat by omega]
  unfold signed
  rw [Nat.shiftLeft_eq, hm]
/-- Two words that are floats stand as their keys. -/
theorem order_is (x y : Nat) (hx : rg x ≤ 9218868437227405312) (hy : rg y ≤ 9218868437227405312) : double.order x y = some (compare (key x) (key y)) := by
  unfold Format.order
  rcases Nat.lt_or_eq_of_le hx with hx | hx <;> rcases Nat.lt_or_eq_of_le hy with hy | hy
  · obtain ⟨m, p, e1, l1, v1⟩ := read_num x hx
    obtain ⟨n, q, e2, l2, v2⟩ := read_num y hy
    rw [e1, e2]
    show some (compare (signed (sg x) m (p - min p q).toNat) (signed (sg y) n (q - min p q).toNat)) = _
    rw [← sv_key, ← compare_scale (signed (sg x) m (p - min p q).toNat) (signed (sg y) n (q - min p q).toNat) (2 ^ (min p q - double.leastPlace).toNat) (Nat.two_pow_pos _), signed_V (s := sg x) (by omega) (Int.min_le_left ..) _ v1, signed_V (s := sg y) (by omega) (Int.min_le_right ..) _ v2]
    rfl
  · obtain ⟨m, p, e1, l1, v1⟩ := read_num x hx
    rw [e1, read_inf y hy]
    unfold Datum.order key
    rw [hy]
    cases sg y
    · rw [Int.compare_eq_lt.2 (by cases sg x <;> simp <;> omega)]; rfl
    · rw [Int.compare_eq_gt.2 (by cases sg x <;> simp <;> omega)]; rfl
  · obtain ⟨m, p, e1, l1, v1⟩ := read_num y hy
    rw [e1, read_inf x hx]
    unfold Datum.order key
    rw [hx]
    cases sg x
    · rw [Int.compare_eq_gt.2 (by cases sg y <;> simp <;> omega)]; rfl
    · rw [Int.compare_eq_lt.2 (by cases sg y <;> simp <;> omega)]; rfl
  · rw [read_inf x hx, read_inf y hy]
    unfold Datum.order key
    rw [hx, hy]
    cases sg x <;> cases sg y <;> decide
theorem order_nan (x y : Nat) (h : 9218868437227405312 < rg x ∨ 9218868437227405312 < rg y) : double.order x y = none := by
  unfold Format.order
  rcases h with h | h
  · obtain ⟨n, e⟩ := read_nan x h
    rw [e]; unfold Datum.order; rfl
  · obtain ⟨n, e⟩ := read_nan y h
    rw [e]
    unfold Datum.order
    cases double.read x <;> rfl
end Go.Proofs.Ytmcfmikpcmbmbaa.Float
