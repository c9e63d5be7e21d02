/- Plain laws on the check of bytes: one bit, half a byte, a byte, a row of bytes; what is linear, what can be undone. No program in sight. -/
import Derived.WalkKit
namespace Go.Proofs.YtlbaedgmbdljpaaDoor.Plain

def poly : BitVec 32 := 3988292384#32
/-- One bit. -/
def one (s : BitVec 32) : BitVec 32 := (s >>> 1) ^^^ (if s.getLsbD 0 then poly else 0#32)
def four (s : BitVec 32) : BitVec 32 := one (one (one (one s)))
def eight (s : BitVec 32) : BitVec 32 := four (four s)

theorem xor_ite (a b : Bool) : (if (a ^^ b) then poly else 0#32) = (if a then poly else 0#32) ^^^ (if b then poly else 0#32) := by
  cases a <;> cases b <;> simp
theorem xor_swap (a b c d : BitVec 32) : (a ^^^ b) ^^^ (c ^^^ d) = (a ^^^ c) ^^^ (b ^^^ d) := by
  ext i hi; simp only [BitVec.getElem_xor]; cases a[i] <;> cases b[i] <;> cases c[i] <;> cases d[i] <;> rfl
theorem one_xor (a b : BitVec 32) : one (a ^^^ b) = one a ^^^ one b := by
  unfold one
  rw [BitVec.getLsbD_xor, xor_ite, BitVec.ushiftRight_xor_distrib, xor_swap]
theorem four_xor (a b : BitVec 32) : four (a ^^^ b) = four a ^^^ four b := by
  simp only [four, one_xor]
theorem eight_xor (a b : BitVec 32) : eight (a ^^^ b) = eight a ^^^ eight b := by
  simp only [eight, four_xor]
theorem one_even (a : BitVec 32) (h : a.getLsbD 0 = false) : one a = a >>> 1 := by
  unfold one; rw [h]; simp
theorem one_top (a : BitVec 32) : (one a).getLsbD 31 = a.getLsbD 0 := by
  unfold one
  rw [BitVec.getLsbD_xor, BitVec.getLsbD_ushiftRight]
  have h1 : a.getLsbD (1 + 31) = false := BitVec.getLsbD_of_ge _ _ (by omega)
  rw [h1]
  cases a.getLsbD 0 <;> decide
theorem one_inj {a b : BitVec 32} (h : one a = one b) : a = b := by
  have h0 : a.getLsbD 0 = b.getLsbD 0 := by rw [← one_top a, ← one_top b, h]
  have hs : a >>> 1 = b >>> 1 := by
    unfold one at h
    rw [h0] at h
    have := congrArg (· ^^^ (if b.getLsbD 0 then poly else 0#32)) h
    simpa [BitVec.xor_assoc] using this
  apply BitVec.eq_of_getLsbD_eq
  intro i hi
  by_cases hz : i = 0
  · subst hz; exact h0
  · have e := congrArg (fun x => BitVec.getLsbD x (i - 1)) hs
    simp only [BitVec.getLsbD_ushiftRight] at e
    rwa [show 1 + (i - 1) = i from by omega] at e
theorem four_inj {a b : BitVec 32} (h : four a = four b) : a = b := one_inj (one_inj (one_inj (one_inj h)))
theorem eight_inj {a b : BitVec 32} (h : eight a = eight b) : a = b := four_inj (four_inj h)

/-- Half a byte of noughts below: it is shifted. -/
theorem four_shift (a : BitVec 32) (h : ∀ i, i < 4 → a.getLsbD i = false) : four a = a >>> 4 := by
  have e0 : one a = a >>> 1 := one_even a (h 0 (by omega))
  have e1 : one (a >>> 1) = a >>> 2 := by
    rw [one_even _ (by rw [BitVec.getLsbD_ushiftRight]; exact h 1 (by omega)), ← BitVec.shiftRight_add]
  have e2 : one (a >>> 2) = a >>> 3 := by
    rw [one_even _ (by rw [BitVec.getLsbD_ushiftRight]; exact h 2 (by omega)), ← BitVec.shiftRight_add]
  have e3 : one (a >>> 3) = a >>> 4 := by
    rw [one_even _ (by rw [BitVec.getLsbD_ushiftRight]; exact h 3 (by omega)), ← BitVec.shiftRight_add]
  unfold four; rw [e0, e1, e2, e3]
theorem eight_shift (a : BitVec 32) (h : ∀ i, i < 8 → a.getLsbD i = false) : eight a = a >>> 8 := by
  unfold eight
  rw [four_shift a (fun i hi => h i (by omega)), four_shift _ (fun i hi => by rw [BitVec.getLsbD_ushiftRight]; exact h (4 + i) (by omega)), ← BitVec.shiftRight_add]
theorem bit15 : ∀ i, i < 32 → (15#32).getLsbD i = decide (i < 4) := by decide
theorem bit255 : ∀ i, i < 32 → (255#32).getLsbD i = decide (i < 8) := by decide
theorem split4 (s : BitVec 32) : s = ((s >>> 4) <<< 4) ^^^ (s &&& 15#32) := by
  apply BitVec.eq_of_getLsbD_eq
  intro i hi
  rw [BitVec.getLsbD_xor, BitVec.getLsbD_shiftLeft, BitVec.getLsbD_ushiftRight, BitVec.getLsbD_and, bit15 i hi]
  by_cases h : i < 4
  · simp only [h, hi, decide_true, Bool.not_true, Bool.and_false, Bool.false_and, Bool.and_true, Bool.false_xor]
  · simp only [h, hi, decide_false, Bool.not_false, decide_true, Bool.and_true, Bool.true_and, Bool.and_false, Bool.xor_false, show 4 + (i - 4) = i from by omega]
theorem split8 (s : BitVec 32) : s = (s &&& 255#32) ^^^ ((s >>> 8) <<< 8) := by
  apply BitVec.eq_of_getLsbD_eq
  intro i hi
  rw [BitVec.getLsbD_xor, BitVec.getLsbD_shiftLeft, BitVec.getLsbD_ushiftRight, BitVec.getLsbD_and, bit255 i hi]
  by_cases h : i < 8
  · simp only [h, hi, decide_true, Bool.not_true, Bool.and_false, Bool.false_and, Bool.and_true, Bool.xor_false]
  · simp only [h, hi, decide_false, Bool.not_false, decide_true, Bool.and_true, Bool.true_and, Bool.and_false, Bool.false_xor, show 8 + (i - 8) = i from by omega]
/-- Shifted down, up and down again. -/
theorem down_up (s : BitVec 32) (k : Nat) : ((s >>> k) <<< k) >>> k = s >>> k := by
  apply BitVec.eq_of_getLsbD_eq
  intro i hi
  simp only [BitVec.getLsbD_shiftLeft, BitVec.getLsbD_ushiftRight]
  by_cases h : k + i < 32
  · simp only [h, show ¬ k + i < k from by omega, decide_true, decide_false, Bool.not_false, Bool.true_and, show k + (k + i - k) = k + i from by omega]
  · have : s.getLsbD (k + i) = false := BitVec.getLsbD_of_ge _ _ (by omega)
    simp only [h, this, decide_false, Bool.false_and]

/-- The table of half bytes. -/
def half : Nat → BitVec 32
  | 0 => 0#32 | 1 => 498536548#32 | 2 => 997073096#32 | 3 => 651767980#32 | 4 => 1994146192#32 | 5 => 1802195444#32 | 6 => 1303535960#32 | 7 => 1342533948#32
  | 8 => 3988292384#32 | 9 => 4027552580#32 | 10 => 3604390888#32 | 11 => 3412177804#32 | 12 => 2607071920#32 | 13 => 2262029012#32 | 14 => 2685067896#32 | _ => 3183342108#32
theorem half_is (k : Nat) (h : k < 16) : four (BitVec.ofNat 32 k) = half k := by
  have : k = 0 ∨ k = 1 ∨ k = 2 ∨ k = 3 ∨ k = 4 ∨ k = 5 ∨ k = 6 ∨ k = 7 ∨ k = 8 ∨ k = 9 ∨ k = 10 ∨ k = 11 ∨ k = 12 ∨ k = 13 ∨ k = 14 ∨ k = 15 := by omega
  rcases this with rfl | rfl | rfl | rfl | rfl | rfl | rfl | rfl | rfl | rfl | rfl | rfl | rfl | rfl | rfl | rfl <;> decide
theorem and15 (s : BitVec 32) : s &&& 15#32 = BitVec.ofNat 32 (s.toNat % 16) := by
  apply BitVec.eq_of_toNat_eq
  rw [BitVec.toNat_and]
  have e : (15#32).toNat = 2 ^ 4 - 1 := by decide
  rw [e, Nat.and_two_pow_sub_one_eq_mod, BitVec.toNat_ofNat]
  have : s.toNat % 2 ^ 4 < 2 ^ 32 := Nat.lt_of_lt_of_le (Nat.mod_lt _ (by omega)) (by omega)
  omega
/-- Half a byte by the table. -/
theorem four_table (s : BitVec 32) : four s = (s >>> 4) ^^^ half (s.toNat % 16) := by
  have e : four s = four ((s >>> 4) <<< 4) ^^^ four (s &&& 15#32) := by
    rw [← four_xor, ← split4]
  rw [e, and15, half_is _ (Nat.mod_lt _ (by omega)), four_shift, down_up]
  intro i hi
  simp [BitVec.getLsbD_shiftLeft, hi]

/-- A row of bytes, gone through. -/
def step (s x : BitVec 32) : BitVec 32 := eight (s ^^^ x)
def run (s : BitVec 32) (l : List (BitVec 32)) : BitVec 32 := l.foldl step s
theorem run_nil (s : BitVec 32) : run s [] = s := rfl
theorem run_cons (s x : BitVec 32) (l : List (BitVec 32)) : run s (x :: l) = run (step s x) l := rfl
theorem run_append (s : BitVec 32) (a b : List (BitVec 32)) : run s (a ++ b) = run (run s a) b := List.foldl_append
theorem run_inj (l : List (BitVec 32)) : ∀ {s t : BitVec 32}, run s l = run t l → s = t := by
  induction l with
  | nil => intro s t h; exact h
  | cons x l ih =>
    intro s t h
    have := eight_inj (ih h)
    have := congrArg (· ^^^ x) this
    simpa [BitVec.xor_assoc] using this
theorem run_same (l : List (BitVec 32)) (s t : BitVec 32) : run s l = run t l ↔ s = t := ⟨run_inj l, fun h => by rw [h]⟩
/-- Of two rows, exclusive-or together. -/
theorem run_xor : ∀ (a b : List (BitVec 32)) (s t : BitVec 32), a.length = b.length → run (s ^^^ t) (List.zipWith (· ^^^ ·) a b) = run s a ^^^ run t b
  | [], [], s, t, _ => rfl
  | x :: a, y :: b, s, t, h => by
    simp only [List.zipWith_cons_cons, run_cons]
    rw [← run_xor a b _ _ (by simpa using h)]
    congr 1
    unfold step
    rw [← eight_xor, xor_swap]

/-- The check. -/
def more (s : BitVec 32) (l : List (BitVec 32)) : BitVec 32 := ~~~ (run (~~~ s) l)
theorem more_append (s : BitVec 32) (a b : List (BitVec 32)) : more (more s a) b = more s (a ++ b) := by
  unfold more; rw [run_append, BitVec.not_not]
theorem more_nil (s : BitVec 32) : more s [] = s := by unfold more; rw [run_nil, BitVec.not_not]
theorem more_inj (l : List (BitVec 32)) (s t : BitVec 32) : more s l = more t l ↔ s = t := by
  unfold more
  constructor
  · intro h
    have h1 := congrArg (~~~ ·) h
    simp only [BitVec.not_not] at h1
    have h2 := congrArg (~~~ ·) (run_inj l h1)
    simpa only [BitVec.not_not] using h2
  · intro h; rw [h]
theorem more_run (l m : List (BitVec 32)) (s t : BitVec 32) : more s l = more t m ↔ run (~~~ s) l = run (~~~ t) m := by
  unfold more
  constructor
  · intro h
    have h1 := congrArg (~~~ ·) h
    simpa only [BitVec.not_not] using h1
  · intro h; rw [h]
theorem not_as_xor (s : BitVec 32) : ~~~ s = s ^^^ BitVec.allOnes 32 := (BitVec.xor_allOnes (x := s)).symm

/-- Three texts of one length. -/
theorem more_three (a b c : List (BitVec 32)) (hb : a.length = b.length) (hc : a.length = c.length) :
    more 0#32 (List.zipWith (· ^^^ ·) (List.zipWith (· ^^^ ·) a b) c) = more 0#32 a ^^^ more 0#32 b ^^^ more 0#32 c := by
  unfold more
  have h1 := run_xor (List.zipWith (· ^^^ ·) a b) c (BitVec.allOnes 32 ^^^ BitVec.allOnes 32) (BitVec.allOnes 32) (by simp; omega)
  have h2 := run_xor a b (BitVec.allOnes 32) (BitVec.allOnes 32) hb
  rw [h2] at h1
  have e : (BitVec.allOnes 32 ^^^ BitVec.allOnes 32) ^^^ BitVec.allOnes 32 = ~~~ (0#32) := by decide
  have e' : ~~~ (0#32) = BitVec.allOnes 32 := by decide
  rw [e, e'] at h1
  rw [e', h1]
  simp only [not_as_xor]
  ext i hi
  simp only [BitVec.getElem_xor]
  generalize (run (BitVec.allOnes 32) a)[i] = p
  generalize (run (BitVec.allOnes 32) b)[i] = q
  generalize (run (BitVec.allOnes 32) c)[i] = r
  generalize (BitVec.allOnes 32)[i] = z
  cases p <;> cases q <;> cases r <;> cases z <;> rfl

/-- Bursts. Two rows that are the same but for a stretch differ behind the stretch just if they differ there. -/
theorem run_mid (s : BitVec 32) (a u v c : List (BitVec 32)) : run s (a ++ u ++ c) = run s (a ++ v ++ c) ↔ run (run s a) u = run (run s a) v := by
  simp only [run_append]
  exact run_same c _ _
/-- Two stretches of one length differ by what their exclusive-or makes of nought. -/
theorem run_diff (s : BitVec 32) (u d : List (BitVec 32)) (h : u.length = d.length) : run s (List.zipWith (· ^^^ ·) u d) = run s u ↔ run 0#32 d = 0#32 := by
  have e := run_xor u d s 0#32 h
  rw [BitVec.xor_zero] at e
  rw [e]
  constructor
  · intro h
    have := congrArg (run s u ^^^ ·) h
    simpa [← BitVec.xor_assoc] using this
  · intro h; rw [h]; simp
theorem eight_zero : eight 0#32 = 0#32 := by decide
theorem eight_is_zero (s : BitVec 32) : eight s = 0#32 ↔ s = 0#32 := by
  constructor
  · intro h; rw [← eight_zero] at h; exact eight_inj h
  · rintro rfl; exact eight_zero
/-- What is turned goes in byte by byte, or at once. -/
theorem eight_push (x : BitVec 32) : eight x = eight (x &&& 255#32) ^^^ (x >>> 8) := by
  have e := split8 x
  have s8 : eight ((x >>> 8) <<< 8) = x >>> 8 := by
    rw [eight_shift _ (fun i hi => by simp [BitVec.getLsbD_shiftLeft, hi]), down_up]
  rw [← s8, ← eight_xor, ← e]
/-- Four bytes of a word, gone through from s: as the word at once. -/
theorem run_word (t : BitVec 32) : run 0#32 [t &&& 255#32, (t >>> 8) &&& 255#32, (t >>> 16) &&& 255#32, (t >>> 24) &&& 255#32] = eight (eight (eight (eight t))) := by
  have top : (t >>> 24) &&& 255#32 = t >>> 24 := by
    apply BitVec.eq_of_getLsbD_eq
    intro i hi
    rw [BitVec.getLsbD_and, BitVec.getLsbD_ushiftRight, bit255 i hi]
    by_cases h : i < 8
    · simp only [h, decide_true, Bool.and_true]
    · have : t.getLsbD (24 + i) = false := BitVec.getLsbD_of_ge _ _ (by omega)
      simp only [this, Bool.false_and]
  have p0 := eight_push t
  have p1 := eight_push (t >>> 8)
  have p2 := eight_push (t >>> 16)
  rw [← BitVec.shiftRight_add] at p1 p2
  simp only [run_cons, run_nil, step, BitVec.zero_xor]
  rw [top]
  simp only [eight_xor]
  rw [p0]
  simp only [eight_xor]
  rw [p1]
  simp only [eight_xor]
  rw [p2]
  simp only [eight_xor, BitVec.xor_assoc]
theorem burst (t : BitVec 32) : run 0#32 [t &&& 255#32, (t >>> 8) &&& 255#32, (t >>> 16) &&& 255#32, (t >>> 24) &&& 255#32] = 0#32 ↔ t = 0#32 := by
  rw [run_word]
  simp only [eight_is_zero]
/-- Two bytes alike in a row. -/
theorem twin (d : BitVec 32) (h : d.toNat < 256) : run 0#32 [d, d] = 0#32 ↔ d = 0#32 := by
  simp only [run_cons, run_nil, step, BitVec.zero_xor, eight_is_zero]
  constructor
  · intro e
    have e1 : eight d = d := by
      have := congrArg (· ^^^ d) e
      simpa [BitVec.xor_assoc] using this
    -- as one word of two bytes
    have p := eight_push (d ^^^ (d <<< 8))
    have high : ∀ i, 8 ≤ i → d.getLsbD i = false := fun i hi => by
      rw [← BitVec.testBit_toNat]
      exact Nat.testBit_lt_two_pow (Nat.lt_of_lt_of_le h (Nat.pow_le_pow_right (n := 2) (i := 8) (by omega) hi))
    have a : (d ^^^ (d <<< 8)) &&& 255#32 = d := by
      apply BitVec.eq_of_getLsbD_eq
      intro i hi
      rw [BitVec.getLsbD_and, BitVec.getLsbD_xor, BitVec.getLsbD_shiftLeft, bit255 i hi]
      by_cases hh : i < 8
      · simp only [hh, decide_true, Bool.not_true, Bool.and_false, Bool.false_and, Bool.xor_false, Bool.and_true]
      · simp only [hh, decide_false, Bool.and_false, high i (by omega)]
    have b : (d ^^^ (d <<< 8)) >>> 8 = d := by
      apply BitVec.eq_of_getLsbD_eq
      intro i hi
      rw [BitVec.getLsbD_ushiftRight, BitVec.getLsbD_xor, BitVec.getLsbD_shiftLeft, high (8 + i) (by omega)]
      by_cases hh : 8 + i < 32
      · simp only [hh, show ¬ 8 + i < 8 from by omega, decide_true, decide_false, Bool.not_false, Bool.true_and, Bool.false_xor, show 8 + i - 8 = i from by omega]
      · simp only [hh, decide_false, Bool.false_and, Bool.false_xor, high i (by omega)]
    rw [a, b, e1, BitVec.xor_self] at p
    have z := (eight_is_zero _).1 p
    have := congrArg (· &&& 255#32) z
    rw [a] at this
    simpa using this
  · rintro rfl; rw [eight_zero]; rfl
end Go.Proofs.YtlbaedgmbdljpaaDoor.Plain
