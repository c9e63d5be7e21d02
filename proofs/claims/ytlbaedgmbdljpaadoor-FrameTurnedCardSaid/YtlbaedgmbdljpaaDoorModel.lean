/- What a text of bytes is split into, in plain words. -/
import Derived.Test.YtlbaedgmbdljpaaDoorPut
namespace Go.Proofs.YtlbaedgmbdljpaaDoor

theorem num_nil : num [] = 0 := by unfold num; rfl
theorem num_cons (x : Int) (r : List Int) : num (x :: r) = x + 256 * num r := by rw [num]
theorem num_bytes4 (v : Int) (h0 : 0 ≤ v) (h1 : v < 4294967296) : num (bytesOf v 4) = v := by
  have : bytesOf v 4 = [v % 256, v / 256 % 256, v / 65536 % 256, v / 16777216 % 256] := by simp [bytesOf, List.range_succ]
  rw [this, num_cons, num_cons, num_cons, num_cons, num_nil]; omega
theorem num_bytes2 (v : Int) (h0 : 0 ≤ v) (h1 : v < 65536) : num (bytesOf v 2) = v := by
  have : bytesOf v 2 = [v % 256, v / 256 % 256] := by simp [bytesOf, List.range_succ]
  rw [this, num_cons, num_cons, num_nil]; omega
theorem bytes4_num (l : List Int) (hl : l.length = 4) (hb : ∀ n ∈ l, 0 ≤ n ∧ n < 256) : bytesOf (num l) 4 = l := by
  match l, hl with
  | [a, b, c, d], _ =>
    have ha := hb a (by simp)
    have hb' := hb b (by simp)
    have hc := hb c (by simp)
    have hd := hb d (by simp)
    rw [num_cons, num_cons, num_cons, num_cons, num_nil]
    have e : ∀ v : Int, bytesOf v 4 = [v % 256, v / 256 % 256, v / 65536 % 256, v / 16777216 % 256] := fun v => by simp [bytesOf, List.range_succ]
    rw [e]
    congr 1
    · omega
    · congr 1
      · omega
      · congr 1
        · omega
        · congr 1
          omega

/-- How many bytes the frame at the head says that it has; these bytes. -/
def size2 (s : List Int) : Nat := (num (s.take 2)).toNat
def body (s : List Int) : List Int := (s.drop 6).take (size2 s)
/-- A whole frame stands at the head. -/
def Fits (s : List Int) : Prop := 6 ≤ s.length ∧ 1 ≤ size2 s ∧ 6 + size2 s ≤ s.length ∧ N (sum (body s)) = num ((s.drop 2).take 4)
instance (s : List Int) : Decidable (Fits s) := by unfold Fits; infer_instance
/-- The frames' bytes, and how far. -/
def splitN : Nat → List Int → List (List Int) × Nat
  | 0, _ => ([], 0)
  | k + 1, s => if Fits s then (body s :: (splitN k (s.drop (6 + size2 s))).1, 6 + size2 s + (splitN k (s.drop (6 + size2 s))).2) else ([], 0)
theorem splitN_more (k : Nat) : ∀ (s : List Int), s.length ≤ k → splitN (k + 1) s = splitN k s := by
  induction k with
  | zero =>
    intro s h
    have : ¬ Fits s := fun f => by have := f.1; omega
    simp [splitN, this]
  | succ k ih =>
    intro s h
    by_cases hf : Fits s
    · rw [splitN, if_pos hf, ih _ (by rw [List.length_drop]; have := hf.1; omega)]
      conv => rhs; rw [splitN, if_pos hf]
    · rw [splitN, if_neg hf, splitN, if_neg hf]
theorem splitN_enough (s : List Int) (d : Nat) : splitN (s.length + d) s = splitN s.length s := by
  induction d with
  | zero => rfl
  | succ d ih => rw [← Nat.add_assoc, splitN_more _ _ (by omega), ih]
def splitOf (s : List Int) : List (List Int) × Nat := splitN s.length s
theorem splitOf_stop {s : List Int} (h : ¬ Fits s) : splitOf s = ([], 0) := by
  unfold splitOf
  cases hs : s.length with
  | zero => rfl
  | succ k => rw [splitN, if_neg h]
theorem splitOf_go {s : List Int} (h : Fits s) : splitOf s = (body s :: (splitOf (s.drop (6 + size2 s))).1, 6 + size2 s + (splitOf (s.drop (6 + size2 s))).2) := by
  have h6 := h.1
  have hd : (s.drop (6 + size2 s)).length = s.length - (6 + size2 s) := List.length_drop
  have e : splitN (s.length - 1) (s.drop (6 + size2 s)) = splitOf (s.drop (6 + size2 s)) := by
    have := splitN_enough (s.drop (6 + size2 s)) (s.length - 1 - (s.drop (6 + size2 s)).length)
    rw [show (s.drop (6 + size2 s)).length + (s.length - 1 - (s.drop (6 + size2 s)).length) = s.length - 1 from by omega] at this
    exact this
  unfold splitOf at e ⊢
  rw [show s.length = (s.length - 1) + 1 from by omega, splitN, if_pos h]
  have e2 : splitN (s.length - 1) (s.drop (6 + size2 s)) = splitN (s.drop (6 + size2 s)).length (s.drop (6 + size2 s)) := e
  rw [e2]
attribute [irreducible] splitOf
theorem body_length {s : List Int} (h : Fits s) : (body s).length = size2 s := by
  unfold body; rw [List.length_take, List.length_drop]; have := h.2.2.1; omega
/-- What is split off so far, and what is still to split. -/
def Upto (s : List Int) (pre : List (List Int)) (k : Nat) : Prop := k ≤ s.length ∧ 7 * pre.length ≤ k ∧ splitOf s = (pre ++ (splitOf (s.drop k)).1, k + (splitOf (s.drop k)).2)
theorem Upto.start (s : List Int) : Upto s [] 0 := ⟨Nat.zero_le _, by simp, by simp⟩
theorem Upto.go {s : List Int} {pre : List (List Int)} {k : Nat} (h : Upto s pre k) (hf : Fits (s.drop k)) : Upto s (pre ++ [body (s.drop k)]) (k + 6 + size2 (s.drop k)) := by
  obtain ⟨h1, h7, h2⟩ := h
  have h3 := hf.2.2.1
  have h4 := hf.2.1
  rw [List.length_drop] at h3
  refine ⟨by omega, by rw [List.length_append, List.length_singleton]; omega, ?_⟩
  rw [h2, splitOf_go hf, List.drop_drop]
  simp only [List.append_assoc, List.cons_append, List.nil_append, ← Nat.add_assoc]
theorem Upto.stop {s : List Int} {pre : List (List Int)} {k : Nat} (h : Upto s pre k) (hf : ¬ Fits (s.drop k)) : splitOf s = (pre, k) := by
  rw [h.2.2, splitOf_stop hf]; simp
theorem Upto.count {s : List Int} {pre : List (List Int)} {k : Nat} (h : Upto s pre k) : pre.length ≤ (splitOf s).1.length := by
  rw [h.2.2, List.length_append]; omega
end Go.Proofs.YtlbaedgmbdljpaaDoor
