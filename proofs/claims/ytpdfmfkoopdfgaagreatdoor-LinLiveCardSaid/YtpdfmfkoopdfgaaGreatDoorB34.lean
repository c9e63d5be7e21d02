/- PHist2, LCmp, LFlat, PWord. -/
import Derived.Test.YtpdfmfkoopdfgaaGreatDoorB33
import Derived.Test.YtpdfmfkoopdfgaaGreatDoorB01
import Derived.Test.YtpdfmfkoopdfgaaGreatDoorB31
import Derived.Test.YtpdfmfkoopdfgaaGreatDoorB23
import Derived.Test.YtpdfmfkoopdfgaaGreatDoorB28
set_option linter.unusedVariables false
set_option linter.unusedSimpArgs false
section
namespace Go.Proofs.YtpdfmfkoopdfgaaGreatDoor
set_option maxRecDepth 100000
open Go.RowKit Aid Gr Hs LinP HeapP

/-- A call's numbers are in range. -/
structure _root_.Go.Proofs.YtpdfmfkoopdfgaaGreatDoor.Hs.Cl.Fine (c : Cl) : Prop where
  k : -9223372036854775808 ≤ c.k ∧ c.k ≤ 9223372036854775807
  u : -9223372036854775808 ≤ c.u ∧ c.u ≤ 9223372036854775807
  v : -9223372036854775808 ≤ c.v ∧ c.v ≤ 9223372036854775807
  x : 0 ≤ c.x ∧ c.x < 18446744073709551616
/-- What the laws ask of a history. -/
structure HistIn (l : List Cl) : Prop where
  right : Hs.RightP l
  few : l.length ≤ 9
  fine : ∀ c ∈ l, c.Fine
theorem HistIn.may {l : List Cl} (h : HistIn l) {c : Cl} (hc : c ∈ l) : 11 ≤ c.k ∧ c.k ≤ 17 ∧ 0 ≤ c.fr ∧ 0 ≤ c.era ∧ (c.to < 0 ∨ c.fr < c.to) := by
  obtain ⟨j, hj, rfl⟩ := List.getElem_of_mem hc
  have := (h.right j _ (List.getElem?_eq_getElem hj)).1
  unfold mayB at this
  have := of_decide_eq_true this
  omega
theorem HistIn.fits {l : List Cl} (h : HistIn l) : l.Pairwise fun a b => a.fr < b.fr ∧ a.era ≤ b.era := by
  rw [List.pairwise_iff_getElem]
  intro i j hi hj hij
  have := (h.right j _ (List.getElem?_eq_getElem hj)).2 i _ hij (List.getElem?_eq_getElem hi)
  unfold fitsB at this
  have := of_decide_eq_true this
  exact ⟨this.1, this.2.1⟩
theorem pts_of {c : Cl} {keys : List Int} {p : Pt} (hk : 11 ≤ c.k ∧ c.k ≤ 17) (hs : c.to < 0 ∨ c.fr < c.to) (h : p ∈ ptsOf c keys) : p.fr = c.fr ∧ p.era = c.era ∧ PGood p ∧ (turnsB p.k = true → ptsOf c keys = [p] ∧ p.k = c.k) ∧ (p.must = true → p.to = c.to ∧ 0 ≤ c.to) ∧ (p.k = c.k ∧ p.u = c.u ∧ p.v = c.v ∧ p.x = c.x ∨ p.u = c.u ∧ p.x = 0 ∧ (p.v = 0 ∨ p.v ∈ keys)) := by
  unfold ptsOf at h ⊢
  by_cases h1 : (openB c && asksB c.k || idleB c) = true
  · rw [if_pos h1] at h; cases h
  · rw [if_neg h1] at h ⊢
    simp only [Bool.or_eq_true, Bool.and_eq_true, not_or, not_and] at h1
    by_cases h2 : openB c = true
    · rw [if_pos h2] at h ⊢
      rw [List.mem_singleton] at h
      subst h
      have ha := h1.1 h2
      unfold asksB at ha
      have ht : turnsB c.k = true := by
        unfold turnsB
        have : ¬ (c.k = 13 ∨ c.k = 16 ∨ c.k = 17) := fun q => ha (decide_eq_true q)
        exact decide_eq_true (by omega)
      refine ⟨rfl, rfl, ⟨fun q => ?_, fun q => (by cases q), fun q => (by cases q), hk⟩, fun _ => ⟨rfl, rfl⟩, fun q => (by cases q), .inl ⟨rfl, rfl, rfl, rfl⟩⟩
      have : turnsB c.k = false := q
      rw [ht] at this; cases this
    · rw [if_neg h2] at h ⊢
      have ho : ¬ (c.to < 0 ∨ c.err = 7) := by
        intro q
        apply h2
        unfold openB
        exact decide_eq_true q
      by_cases h3 : c.k ≠ 17
      · rw [if_pos h3] at h ⊢
        rw [List.mem_singleton] at h
        subst h
        refine ⟨rfl, rfl, ⟨fun _ => rfl, fun _ => ?_, fun _ => ?_, hk⟩, fun _ => ⟨rfl, rfl⟩, fun _ => ⟨rfl, ?_⟩, .inl ⟨rfl, rfl, rfl, rfl⟩⟩
        · show 0 ≤ c.to; omega
        · show c.fr ≤ c.to; omega
        · omega
      · rw [if_neg h3] at h ⊢
        rcases List.mem_cons.1 h with rfl | h
        · refine ⟨rfl, rfl, ⟨fun _ => rfl, fun _ => ?_, fun _ => ?_, by show (11 : Int) ≤ 13 ∧ (13 : Int) ≤ 17; omega⟩, fun q => ?_, fun _ => ⟨rfl, by omega⟩, .inr ⟨rfl, rfl, .inl rfl⟩⟩
          · show 0 ≤ c.to; omega
          · show c.fr ≤ c.to; omega
          · have : turnsB 13 = true := q
            cases this
        · by_cases h4 : c.is = true
          · rw [if_pos h4] at h
            unfold nears at h
            obtain ⟨key, hkey, rfl⟩ := List.mem_map.1 h
            refine ⟨rfl, rfl, ⟨fun _ => rfl, fun _ => ?_, fun _ => ?_, by show (11 : Int) ≤ 16 ∧ (16 : Int) ≤ 17; omega⟩, fun q => ?_, fun _ => ⟨rfl, by omega⟩, .inr ⟨rfl, rfl, .inr (List.mem_filter.1 hkey).1⟩⟩
            · show 0 ≤ c.to; omega
            · show c.fr ≤ c.to; omega
            · have : turnsB 16 = true := q
              cases this
          · rw [if_neg h4] at h; cases h
theorem mem_points {l : List Cl} {p : Pt} : p ∈ pointsOf l ↔ ∃ c ∈ l, p ∈ ptsOf c (keysOf l) := by unfold pointsOf pointsK; exact List.mem_flatMap
theorem HistIn.pairs {l : List Cl} (h : HistIn l) {P : Pt → Pt → Prop} (h1 : ∀ c ∈ l, (ptsOf c (keysOf l)).Pairwise P) (h2 : ∀ a ∈ l, ∀ b ∈ l, a.fr < b.fr → a.era ≤ b.era → ∀ p ∈ ptsOf a (keysOf l), ∀ q ∈ ptsOf b (keysOf l), P p q) : (pointsOf l).Pairwise P := by
  unfold pointsOf pointsK
  rw [List.pairwise_flatMap]
  exact ⟨h1, List.Pairwise.imp_of_mem (fun ha hb hab p hp q hq => h2 _ ha _ hb hab.1 hab.2 p hp q hq) h.fits⟩
theorem HistIn.same {l : List Cl} (h : HistIn l) {a b : Cl} (ha : a ∈ l) (hb : b ∈ l) (he : a.fr = b.fr) : a = b := by
  obtain ⟨i, hi, rfl⟩ := List.getElem_of_mem ha
  obtain ⟨j, hj, rfl⟩ := List.getElem_of_mem hb
  have hp := List.pairwise_iff_getElem.1 h.fits
  rcases Nat.lt_trichotomy i j with q | q | q
  · have := (hp i j hi hj q).1; omega
  · subst q; rfl
  · have := (hp j i hj hi q).1; omega
theorem HistIn.points {l : List Cl} (h : HistIn l) : PsGood (pointsOf l) (l.map fun c => c.fr) := by
  have pf := fun {c : Cl} (hc : c ∈ l) {p : Pt} (hp : p ∈ ptsOf c (keysOf l)) => pts_of (keys := keysOf l) (p := p) ⟨(h.may hc).1, (h.may hc).2.1⟩ (h.may hc).2.2.2.2 hp
  refine ⟨fun p hp => ?_, h.pairs (fun c hc => ?_) (fun a ha b hb hab _ p hp q hq _ => ?_), h.pairs (fun c hc => ?_) (fun a ha b hb _ hab p hp q hq => ?_), fun p hp q hq he => ?_, fun p hp => ?_, by rw [List.length_map]; exact h.few⟩
  · obtain ⟨c, hc, hp⟩ := mem_points.1 hp
    exact (pf hc hp).2.2.1
  · rw [List.pairwise_iff_forall_sublist]
    intro p q hs ht
    have hp := hs.subset (List.mem_cons_self ..)
    have hq := hs.subset (List.mem_cons_of_mem _ (List.mem_cons_self ..))
    have hlen := hs.length_le
    rcases ht with ht | ht
    · rw [((pf hc hp).2.2.2.1 ht).1] at hlen; simp at hlen
    · rw [((pf hc hq).2.2.2.1 ht).1] at hlen; simp at hlen
  · rw [(pf ha hp).1, (pf hb hq).1]; omega
  · rw [List.pairwise_iff_forall_sublist]
    intro p q hs
    have hp := hs.subset (List.mem_cons_self ..)
    have hq := hs.subset (List.mem_cons_of_mem _ (List.mem_cons_self ..))
    rw [(pf hc hp).2.1, (pf hc hq).2.1]; exact Int.le_refl _
  · rw [(pf ha hp).2.1, (pf hb hq).2.1]; exact hab
  · obtain ⟨a, ha, hp⟩ := mem_points.1 hp
    obtain ⟨b, hb, hq⟩ := mem_points.1 hq
    rw [(pf ha hp).1, (pf hb hq).1] at he
    obtain rfl := h.same ha hb he
    rw [(pf ha hp).2.1, (pf ha hq).2.1]
  · obtain ⟨a, ha, hp⟩ := mem_points.1 hp
    rw [(pf ha hp).1]
    exact List.mem_map.2 ⟨a, ha, rfl⟩
theorem names_fine {l : List Cl} (h : HistIn l) : ∀ x ∈ keysOf l, -9223372036854775808 ≤ x ∧ x ≤ 9223372036854775807 := by
  intro x hx
  unfold keysOf at hx
  rw [mem_uniq] at hx
  unfold namesOf at hx
  obtain ⟨c, hc, hx⟩ := List.mem_flatMap.1 hx
  have hf := h.fine c hc
  split at hx
  · simp at hx
    rcases hx with rfl | rfl
    · exact hf.u
    · exact hf.v
  · simp at hx
    subst hx; exact hf.u
theorem keys_length (l : List Cl) : (keysOf l).length ≤ 2 * l.length := by
  have h1 : (namesOf l).length ≤ 2 * l.length := by
    induction l with
    | nil => exact Nat.le_refl _
    | cons c l ih =>
      unfold namesOf at ih ⊢
      rw [List.flatMap_cons, List.length_append, List.length_cons]
      split
      · simp at ih ⊢; omega
      · simp at ih ⊢; omega
  unfold keysOf uniq Lib.compact Lib.compactUpTo
  rw [List.length_map]
  refine Nat.le_trans (List.length_filter_le _ _) ?_
  rw [List.length_range]
  unfold sorted
  simpa using h1
theorem pts_length (c : Cl) (keys : List Int) : (ptsOf c keys).length ≤ 1 + keys.length := by
  unfold ptsOf
  split
  · simp
  · split
    · simp
    · split
      · simp
      · split
        · simp only [List.length_cons]
          unfold nears
          rw [List.length_map]
          have := List.length_filter_le Hs.isV keys
          omega
        · simp
theorem flat_length_le {α β : Type} (f : α → List β) (n : Nat) : ∀ (l : List α), (∀ a ∈ l, (f a).length ≤ n) → (l.flatMap f).length ≤ l.length * n
  | [], _ => by simp
  | a :: l, h => by
    rw [List.flatMap_cons, List.length_append, List.length_cons, Nat.add_mul, Nat.one_mul]
    have h1 := h a (List.mem_cons_self ..)
    have h2 := flat_length_le f n l (fun b hb => h b (List.mem_cons_of_mem _ hb))
    omega
theorem flat_count_le {α β : Type} (f : α → List β) (p : β → Bool) : ∀ (l : List α), (∀ a ∈ l, (f a).countP p ≤ 1) → (l.flatMap f).countP p ≤ l.length
  | [], _ => by simp
  | a :: l, h => by
    rw [List.flatMap_cons, List.countP_append, List.length_cons]
    have h1 := h a (List.mem_cons_self ..)
    have h2 := flat_count_le f p l (fun b hb => h b (List.mem_cons_of_mem _ hb))
    omega
theorem HistIn.tn {l : List Cl} (h : HistIn l) : tn (pointsOf l) ≤ l.length := by
  refine flat_count_le _ _ l (fun c hc => ?_)
  by_cases hx : ∃ p ∈ ptsOf c (keysOf l), turnsB p.k = true
  · obtain ⟨p, hp, ht⟩ := hx
    rw [((pts_of ⟨(h.may hc).1, (h.may hc).2.1⟩ (h.may hc).2.2.2.2 hp).2.2.2.1 ht).1]
    rw [List.countP_singleton]
    split <;> simp
  · rw [List.countP_eq_zero.2 (fun p hp ht => hx ⟨p, hp, ht⟩)]
    exact Nat.zero_le _
theorem HistIn.ain {l : List Cl} (h : HistIn l) {g : List Arc} (hr : Rises g) (hg : g.length ≤ 800) : AIn (pointsOf l) g := by
  have ht := h.tn
  have hf := h.few
  refine ⟨hr, by omega, fun p hp => ?_, ?_, h.points.bound⟩
  · obtain ⟨c, hc, hp⟩ := mem_points.1 hp
    have hc' := h.fine c hc
    have hpt := pts_of ⟨(h.may hc).1, (h.may hc).2.1⟩ (h.may hc).2.2.2.2 hp
    have hkk := hpt.2.2.1.kind
    have h0 := hc'.u
    have h1 := hc'.v
    have h2 := hc'.x
    unfold opOf Gr.Op.Fine
    simp only []
    rcases hpt.2.2.2.2.2 with ⟨q1, q2, q3, q4⟩ | ⟨q1, q2, q3⟩
    · rw [q2, q3, q4]; omega
    · have hv : -9223372036854775808 ≤ p.v ∧ p.v ≤ 9223372036854775807 := by
        rcases q3 with q | q
        · rw [q]; omega
        · exact names_fine h _ q
      rw [q1, q2]; omega
  · have h1 := flat_length_le (fun c => ptsOf c (keysOf l)) (1 + 2 * l.length) l (fun c _ => Nat.le_trans (pts_length c _) (by have := keys_length l; omega))
    have h2 : (pointsOf l).length ≤ l.length * (1 + 2 * l.length) := h1
    have h3 : l.length * (1 + 2 * l.length) ≤ 9 * 19 := Nat.mul_le_mul (by omega) (by omega)
    omega
end Go.Proofs.YtpdfmfkoopdfgaaGreatDoor
end
section
namespace Go.Proofs.YtpdfmfkoopdfgaaGreatDoor
set_option maxRecDepth 100000
open Go.RowKit Aid Gr Hs LinP HeapP

theorem nan79 (x : Int) (w : World) : Calls Tryz.prog 79 #[.int .u64 x] w fun e w' => e = .returned (.bool false) ∧ w = w' := by
  have f0 : (x != x) = false := by simp
  go_enter Tryz.func79, Tryz.ntmps79
  go_wp2
  go_ret
  exact ⟨rfl, rfl⟩
theorem compare43 (x y : Int) (w : World) : Calls Tryz.prog 43 #[.int .u64 x, .int .u64 y] w fun e w' => e = .returned (.int .i64 (Lib.compareInt x y)) ∧ w = w' := by
  have D := Lib.hid (fun (z : Int) (W : World) => nan79 z W)
  by_cases h1 : x < y
  · have hr : Lib.compareInt x y = -1 := by unfold Lib.compareInt; rw [if_pos h1]
    rw [hr]
    go_enter Tryz.func43, Tryz.ntmps43
    go_wp2_with (go_at_call 79; ((with_reducible refine (D.out _ _).mono ?_); rintro e w2 ⟨rfl, rfl⟩))
    go_ret
    exact ⟨rfl, rfl⟩
  · by_cases h2 : y < x
    · have hr : Lib.compareInt x y = 1 := by unfold Lib.compareInt; rw [if_neg h1, if_pos h2]
      rw [hr]
      go_enter Tryz.func43, Tryz.ntmps43
      go_wp2_with (go_at_call 79; ((with_reducible refine (D.out _ _).mono ?_); rintro e w2 ⟨rfl, rfl⟩))
      go_ret
      exact ⟨rfl, rfl⟩
    · have hr : Lib.compareInt x y = 0 := by unfold Lib.compareInt; rw [if_neg h1, if_neg h2]
      rw [hr]
      go_enter Tryz.func43, Tryz.ntmps43
      go_wp2_with (go_at_call 79; ((with_reducible refine (D.out _ _).mono ?_); rintro e w2 ⟨rfl, rfl⟩))
      go_ret
      exact ⟨rfl, rfl⟩
/-- The first that is not 0. -/
def orI : List Int → Int
  | [] => 0
  | x :: l => if x = 0 then orI l else x
theorem orI_zero {l : List Int} (h : ∀ (j : Nat) (x : Int), l[j]? = some x → x = 0) : orI l = 0 := by
  induction l with
  | nil => rfl
  | cons x l ih => rw [orI, if_pos (h 0 x rfl)]; exact ih (fun j y hy => h (j + 1) y (by simpa using hy))
theorem orI_hit : ∀ {l : List Int} {k : Nat} {x : Int}, (∀ (j : Nat) (y : Int), j < k → l[j]? = some y → y = 0) → l[k]? = some x → x ≠ 0 → orI l = x
  | [], k, x, _, h, _ => by simp at h
  | y :: l, 0, x, _, h, hx => by simp at h; subst h; rw [orI, if_neg hx]
  | y :: l, k + 1, x, hz, h, hx => by
    rw [orI, if_pos (hz 0 y (by omega) rfl)]
    exact orI_hit (k := k) (fun j z hj hz2 => hz (j + 1) z (by omega) (by simpa using hz2)) (by simpa using h) hx
set_option maxHeartbeats 2000000 in
theorem or41 (A : Option Addr) (c nn : Nat) (l : List Int) (w : World) (hn : nn = l.length) (hl : Sl w A (l.map (Value.int .i64))) (h40 : l.length ≤ 100000) :
    Calls Tryz.prog 41 #[.slice A nn c] w fun e w' => e = .returned (.int .i64 (orI l)) ∧ w = w' := by
  have HN0 := Lib.hid hn
  have HL := Lib.hid hl
  have nb : nn ≤ 100000 := by omega
  clear hl hn h40
  go_enter Tryz.func41, Tryz.ntmps41
  go_wp2
  go_loopw [8] (fun i wr => ∃ k : Nat, k ≤ nn ∧ i = .int .i64 k ∧ (∀ (j : Nat) (y : Int), j < k → l[j]? = some y → y = 0) ∧ w = wr) (fun i _ => nn - (intOf i).toNat)
  case atStart => exact ⟨0, Nat.zero_le _, rfl, fun j a hj => absurd hj (Nat.not_lt_zero _), rfl⟩
  case round =>
    obtain ⟨k, hk, rfl, hno, rfl⟩ := hrel
    have HN := Lib.hid hno
    clear hno
    by_cases hlt : k < nn
    · obtain ⟨x, hkn⟩ : ∃ n, l[k]? = some n := ⟨l[k]'(by rw [← HN0.out]; exact hlt), List.getElem?_eq_getElem _⟩
      have hl0 : 0 < (l.map (Value.int .i64)).length := by rw [List.length_map, ← HN0.out]; omega
      obtain ⟨b, off, hA, hc⟩ := HL.out hl0
      subst hA
      have c0 := hc k (.int .i64 x) (by rw [List.getElem?_map, hkn]; rfl)
      have HX := Lib.hid hkn
      clear hc hkn hl0
      have k0 : (0 : Int) ≤ (k : Int) := by omega
      have k1 : (k : Int) < (nn : Int) := by omega
      by_cases hx : x = 0
      · subst hx
        go_wp2
        go_roundw
        case rel =>
          refine ⟨k + 1, by omega, by go_num, fun j y hj hy => ?_, trivial⟩
          rcases Nat.lt_or_ge j k with h | h
          · exact HN.out j y h hy
          · obtain rfl : j = k := by omega
            rw [HX.out] at hy; cases hy; rfl
        case measure => simp [intOf]; omega
      · have hr := Lib.hid (orI_hit HN.out HX.out hx)
        have f0 : (x != 0) = true := by simpa using hx
        go_wp2
        go_ret
        exact ⟨by rw [hr.out]; rfl, rfl⟩
    · have hr := Lib.hid (orI_zero (l := l) fun j y hy => HN.out j y (by have := (List.getElem?_eq_some_iff.1 hy).1; have := HN0.out; omega) hy)
      go_wp2
      go_ret
      exact ⟨by rw [hr.out]; rfl, rfl⟩
end Go.Proofs.YtpdfmfkoopdfgaaGreatDoor
end
section
namespace Go.Proofs.YtpdfmfkoopdfgaaGreatDoor
set_option maxRecDepth 100000
open Go.RowKit Aid Gr Hs LinP HeapP

theorem flatC_set : ∀ (l : List Cl) {q : Nat} {c c' : Cl} {k : Nat} {u : Value}, l[q]? = some c → k < 13 → c'.cells = c.cells.set k u → (flatC l).set (q * 13 + k) u = flatC (l.set q c')
  | [], q, c, c', k, u, h, _, _ => by simp at h
  | p :: l, 0, c, c', k, u, h, hk, he => by
    obtain rfl : p = c := by simpa using h
    have hq : p.cells.length = 13 := rfl
    rw [flatC, List.set_cons_zero, flatC, he, Nat.zero_mul, Nat.zero_add, List.set_append_left _ _ (by rw [hq]; exact hk)]
  | p :: l, q + 1, c, c', k, u, h, hk, he => by
    have hq : p.cells.length = 13 := rfl
    have ih := flatC_set l (q := q) (by simpa using h) hk he
    rw [flatC, List.set_cons_succ, flatC, List.set_append_right _ _ (by rw [hq]; omega), hq, ← ih]
    congr 2
    omega
section
variable {P : Program} (w : World)
end
end Go.Proofs.YtpdfmfkoopdfgaaGreatDoor
end
section
namespace Go.Proofs.YtpdfmfkoopdfgaaGreatDoor
set_option maxRecDepth 100000
open Go.RowKit Aid Gr Hs LinP HeapP

def foldG (g : List Arc) : List Pt → List Arc
  | [] => g
  | p :: ws => foldG (doG g (opOf p)) ws
theorem foldG_append : ∀ (ws vs : List Pt) (g : List Arc), foldG g (ws ++ vs) = foldG (foldG g ws) vs
  | [], _, _ => rfl
  | p :: ws, vs, g => foldG_append ws vs (doG g (opOf p))
def Fits (g : List Arc) : List Pt → Prop
  | [] => True
  | p :: ws => (p.must = true → fitR p (doA g (opOf p)) = true) ∧ Fits (doG g (opOf p)) ws
theorem fits_append : ∀ (ws vs : List Pt) (g : List Arc), Fits g (ws ++ vs) ↔ Fits g ws ∧ Fits (foldG g ws) vs
  | [], _, _ => by simp [Fits, foldG]
  | p :: ws, vs, g => by
    rw [List.cons_append, Fits, Fits, foldG, fits_append ws vs]
    exact and_assoc.symm
/-- Points in a row: an order. -/
structure Lined (ps : List Pt) (ws : List Pt) (g : List Arc) : Prop where
  sub : ∀ p ∈ ws, p ∈ ps
  nodup : ws.Pairwise fun p q => p ≠ q
  must : ∀ p ∈ ps, p.must = true → p ∈ ws
  eras : ws.Pairwise fun p q => p.era ≤ q.era
  ord : ws.Pairwise fun p q => p.era = q.era → ¬ (q.must = true ∧ 0 ≤ q.to ∧ q.to < p.fr)
  fit : Fits g ws
theorem ptAt_inj {qs : List Pt} (hn : qs.Nodup) {i j : Nat} (hi : i < qs.length) (hj : j < qs.length) (h : ptAt qs i = ptAt qs j) : i = j := by
  have ei := ptAt_some hi
  have ej := ptAt_some hj
  rw [List.getElem?_eq_getElem hi] at ei
  rw [List.getElem?_eq_getElem hj] at ej
  have e : qs[i] = qs[j] := by rw [Option.some.inj ei, Option.some.inj ej]; exact h
  have hp := List.pairwise_iff_getElem.1 (List.nodup_iff_pairwise_ne.1 hn)
  rcases Nat.lt_trichotomy i j with q | q | q
  · exact absurd e (hp i j hi hj q)
  · exact q
  · exact absurd e.symm (hp j i hj hi q)
theorem line_steps {qs : List Pt} (hn : qs.Nodup) (e : Int) (he : ∀ p ∈ qs, p.era = e) {ws : List Pt} {g0 : List Arc} (hL : Lined qs ws g0) : ∀ (rest dn : List Pt) (g : List Arc) (d : List Bool), ws = dn ++ rest → d.length = qs.length → (∀ i, i < qs.length → (isD d i = true ↔ ptAt qs i ∈ dn)) → Fits g rest →
    ∃ d', LinP.Steps (sysOf qs) g d (foldG g rest) d' ∧ Full (sysOf qs) d'
  | [], dn, g, d, hw, hl, hd, _ => by
    refine ⟨d, .refl _ _, fun i hi hm => ?_⟩
    rw [hd i hi]
    have := hL.must _ (ptAt_mem hi) hm
    rw [hw, List.append_nil] at this
    exact this
  | p :: rest, dn, g, d, hw, hl, hd, hf => by
    have hp : p ∈ ws := by rw [hw]; simp
    obtain ⟨i, hi, hpi⟩ := mem_ptAt (hL.sub p hp)
    have hnd := hL.nodup
    rw [hw, List.pairwise_append] at hnd
    have hno : p ∉ dn := fun q => hnd.2.2 p q p (List.mem_cons_self ..) rfl
    have hdi : isD d i = false := by
      cases hq : isD d i
      · rfl
      · have := (hd i hi).1 hq
        rw [hpi] at this
        exact absurd this hno
    have hil : i < d.length := by omega
    obtain ⟨d', h1, h2⟩ := line_steps hn e he hL rest (dn ++ [p]) (doG g (opOf p)) (d.set i true) (by rw [hw]; simp) (by rw [List.length_set]; exact hl) (fun j hj => by
      rw [isD_set hil, List.mem_append, List.mem_singleton]
      by_cases hij : i = j
      · subst hij; simp [hpi]
      · rw [if_neg hij, hd j hj]
        constructor
        · exact .inl
        · rintro (q | q)
          · exact q
          · exact absurd (ptAt_inj hn hi hj (by rw [hpi, q])) hij) hf.2
    refine ⟨d', ?_, h2⟩
    refine .step i hi hdi (fun k hk hdk hm hki h0 h3 => ?_) ?_ ?_
    · have hk' : k < qs.length := hk
      have hmk : (ptAt qs k).must = true := hm
      have hkw := hL.must _ (ptAt_mem hk') hmk
      have hkn : ptAt qs k ∉ dn := fun q => by rw [(hd k hk').2 q] at hdk; cases hdk
      rw [hw] at hkw
      rcases List.mem_append.1 hkw with q | q
      · exact hkn q
      · rcases List.mem_cons.1 q with q | q
        · exact hki (ptAt_inj hn hk' hi (by rw [q, hpi]))
        · have ho := hL.ord
          rw [hw, List.pairwise_append] at ho
          have h4 := (List.pairwise_cons.1 ho.2.1).1 _ q (by rw [he p (hL.sub p hp), he _ (ptAt_mem hk')])
          have h5 : (ptAt qs k).to < p.fr := by rw [← hpi]; exact h3
          exact h4 ⟨hmk, h0, h5⟩
    · rw [fit_sys, hpi]
      unfold fitP
      cases hm : p.must
      · rfl
      · rw [hf.1 hm]; rfl
    · show LinP.Steps (sysOf qs) (doG g (opOf (ptAt qs i))) _ _ _
      rw [hpi]
      exact h1
theorem ord_line {qs : List Pt} (hn : qs.Nodup) (e : Int) (he : ∀ p ∈ qs, p.era = e) {ws : List Pt} {g : List Arc} (hL : Lined qs ws g) : LinP.Ord (sysOf qs) g (foldG g ws) :=
  line_steps hn e he hL ws [] g (zeros (sysOf qs)) rfl (List.length_replicate ..) (fun i _ => by
    have : isD (zeros (sysOf qs)) i = false := isD_none _ _
    rw [this]; simp) hL.fit
theorem era_take {ps : List Pt} : ∀ p ∈ ps.take (eraLen ps), p.era = (ps.headD ptD).era := fun r hr => by
  obtain ⟨i, hi, hir⟩ := List.getElem_of_mem hr
  rw [List.length_take] at hi
  rw [List.getElem_take] at hir
  subst hir
  unfold eraLen at hi
  split at hi
  · rename_i k hk
    obtain ⟨hk1, hk2, hk3⟩ := List.findIdx?_eq_some_iff_getElem.1 hk
    have := hk3 i (by omega)
    simpa using this
  · rename_i hk
    rw [List.findIdx?_eq_none_iff] at hk
    simpa using hk _ (List.getElem_mem (by omega))
theorem era_drop {ps : List Pt} (hs : ps.Pairwise fun p q => p.era ≤ q.era) (hps : ps ≠ []) : ∀ p ∈ ps.drop (eraLen ps), (ps.headD ptD).era < p.era := by
  intro q hq
  obtain ⟨j, hj, hjq⟩ := List.getElem_of_mem hq
  rw [List.length_drop] at hj
  rw [List.getElem_drop] at hjq
  have h0 : eraLen ps < ps.length := by omega
  have hne : (ps[eraLen ps]'h0).era ≠ (ps.headD ptD).era := by
    have : ∀ n (hn : n < ps.length), n = eraLen ps → (ps[n]'hn).era ≠ (ps.headD ptD).era := by
      intro n hn e
      unfold eraLen at e
      split at e
      · rename_i k hk
        obtain ⟨hk1, hk2, hk3⟩ := List.findIdx?_eq_some_iff_getElem.1 hk
        subst e
        simpa using hk2
      · omega
    exact this _ h0 rfl
  have hhead : (ps.headD ptD).era = (ps[0]'(by omega)).era := by
    cases ps with
    | nil => exact absurd rfl hps
    | cons a l => rfl
  have hpw := List.pairwise_iff_getElem.1 hs
  have p0 : 0 < eraLen ps := eraLen_pos hps
  have h1 := hpw 0 (eraLen ps) (by omega) h0 p0
  rcases Nat.eq_zero_or_pos j with rfl | q0
  · simp only [Nat.add_zero] at hjq
    rw [hjq] at hne h1
    omega
  · have h2 := hpw (eraLen ps) (eraLen ps + j) h0 (by omega) (by omega)
    rw [hjq] at h2
    omega
theorem chain_line : ∀ (n : Nat) {ps : List Pt}, ps.length ≤ n → ps.Nodup → ps.Pairwise (fun p q => p.era ≤ q.era) → ∀ {ws : List Pt} {g : List Arc}, Lined ps ws g → Chain ps g (foldG g ws)
  | n, [], _, _, _, ws, g, hL => by
    cases ws with
    | nil => exact .done g
    | cons p ws => have := hL.sub p (List.mem_cons_self ..); cases this
  | 0, p :: ps, h, _, _, ws, g, hL => by simp at h
  | n + 1, p0 :: ps0, h, hn, he, ws, g, hL => by
    have hps : p0 :: ps0 ≠ [] := by simp
    generalize p0 :: ps0 = ps at *
    have hpos := eraLen_pos hps
    have h1 : ∀ p ∈ ws.takeWhile (fun p => decide (p.era = (ps.headD ptD).era)), p.era = (ps.headD ptD).era := fun p hp => by
      have := List.all_eq_true.1 (List.all_takeWhile (l := ws) (p := fun p => decide (p.era = (ps.headD ptD).era))) p hp
      simpa using this
    have hge : ∀ p ∈ ws, (ps.headD ptD).era ≤ p.era := fun p hp => by
      have hm := hL.sub p hp
      rw [← List.take_append_drop (eraLen ps) ps] at hm
      rcases List.mem_append.1 hm with q | q
      · rw [era_take p q]; exact Int.le_refl _
      · have := era_drop he hps p q; omega
    have h2 : ∀ p ∈ ws.dropWhile (fun p => decide (p.era = (ps.headD ptD).era)), (ps.headD ptD).era < p.era := by
      have hpw := hL.eras
      have hge' := hge
      clear h1 hge hL
      induction ws with
      | nil => intro p hp; cases hp
      | cons a ws ih =>
        have ha := List.pairwise_cons.1 hpw
        by_cases q : a.era = (ps.headD ptD).era
        · rw [List.dropWhile_cons_of_pos (by simpa using q)]
          exact ih ha.2 (fun p hp => hge' p (List.mem_cons_of_mem _ hp))
        · rw [List.dropWhile_cons_of_neg (by simpa using q)]
          intro p hp
          have h3 := hge' a (List.mem_cons_self ..)
          rcases List.mem_cons.1 hp with rfl | hp
          · omega
          · have := ha.1 p hp; omega
    have hsplit : ws = ws.takeWhile (fun p => decide (p.era = (ps.headD ptD).era)) ++ ws.dropWhile (fun p => decide (p.era = (ps.headD ptD).era)) := List.takeWhile_append_dropWhile.symm
    generalize ws.takeWhile (fun p => decide (p.era = (ps.headD ptD).era)) = w1 at *
    generalize ws.dropWhile (fun p => decide (p.era = (ps.headD ptD).era)) = w2 at *
    subst hsplit
    obtain ⟨f1, f2⟩ := (fits_append w1 w2 g).1 hL.fit
    have hn1 := List.pairwise_append.1 hL.nodup
    have he1 := List.pairwise_append.1 hL.eras
    have ho1 := List.pairwise_append.1 hL.ord
    have mem1 : ∀ p ∈ ps, p.era = (ps.headD ptD).era → p ∈ ps.take (eraLen ps) := fun p hp hq => by
      rw [← List.take_append_drop (eraLen ps) ps] at hp
      rcases List.mem_append.1 hp with q | q
      · exact q
      · have := era_drop he hps p q; omega
    have mem2 : ∀ p ∈ ps, p.era ≠ (ps.headD ptD).era → p ∈ ps.drop (eraLen ps) := fun p hp hq => by
      rw [← List.take_append_drop (eraLen ps) ps] at hp
      rcases List.mem_append.1 hp with q | q
      · exact absurd (era_take p q) hq
      · exact q
    have L1 : Lined (ps.take (eraLen ps)) w1 g := ⟨fun p hp => mem1 p (hL.sub p (List.mem_append_left _ hp)) (h1 p hp), hn1.1, fun p hp hm => by
      rcases List.mem_append.1 (hL.must p (List.mem_of_mem_take hp) hm) with q | q
      · exact q
      · have h3 := h2 p q
        rw [era_take p hp] at h3; omega, he1.1, ho1.1, f1⟩
    have L2 : Lined (ps.drop (eraLen ps)) w2 (foldG g w1) := ⟨fun p hp => mem2 p (hL.sub p (List.mem_append_right _ hp)) (by have := h2 p hp; omega), hn1.2.1, fun p hp hm => by
      rcases List.mem_append.1 (hL.must p (List.mem_of_mem_drop hp) hm) with q | q
      · have h3 := h1 p q
        have := era_drop he hps p hp
        omega
      · exact q, he1.2.1, ho1.2.1, f2⟩
    rw [foldG_append]
    refine .era hps (ord_line (hn.sublist (List.take_sublist _ _)) _ era_take L1) (chain_line n ?_ (hn.sublist (List.drop_sublist _ _)) (he.sublist (List.drop_sublist _ _)) L2)
    rw [List.length_drop]; omega
end Go.Proofs.YtpdfmfkoopdfgaaGreatDoor
end
