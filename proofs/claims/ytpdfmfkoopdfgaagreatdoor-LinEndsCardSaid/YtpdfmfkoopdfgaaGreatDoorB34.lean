/- PHist2, LCmp, PWord. -/
import Derived.Test.YtpdfmfkoopdfgaaGreatDoorB33
import Derived.Test.YtpdfmfkoopdfgaaGreatDoorB01
set_option linter.unusedVariables false
set_option linter.unusedSimpArgs false
section
namespace Go.Proofs.YtpdfmfkoopdfgaaGreatDoor
set_option maxRecDepth 100000
open Go.RowKit Aid Gr Hs LinP HeapP

/-- A call's numbers are in range. -/
structure _root_.Go.Proofs.YtpdfmfkoopdfgaaGreatDoor.Hs.Cl.Fine (c : Cl) : Prop where
  k : -9223372036854775808 ≤ c.k ∧ c.k ≤ 9223372036854775807
  u : -9223372036854775808 ≤ c.u ∧ c.u ≤ 9223372036854775807
  v : -9223372036854775808 ≤ c.v ∧ c.v ≤ 9223372036854775807
  x : 0 ≤ c.x ∧ c.x < 18446744073709551616
/-- What the laws ask of a history. -/
structure HistIn (l : List Cl) : Prop where
  right : Hs.RightP l
  few : l.length ≤ 9
  fine : ∀ c ∈ l, c.Fine
theorem HistIn.may {l : List Cl} (h : HistIn l) {c : Cl} (hc : c ∈ l) : 11 ≤ c.k ∧ c.k ≤ 17 ∧ 0 ≤ c.fr ∧ 0 ≤ c.era ∧ (c.to < 0 ∨ c.fr < c.to) := by
  obtain ⟨j, hj, rfl⟩ := List.getElem_of_mem hc
  have := (h.right j _ (List.getElem?_eq_getElem hj)).1
  unfold mayB at this
  have := of_decide_eq_true this
  omega
theorem HistIn.fits {l : List Cl} (h : HistIn l) : l.Pairwise fun a b => a.fr < b.fr ∧ a.era ≤ b.era := by
  rw [List.pairwise_iff_getElem]
  intro i j hi hj hij
  have := (h.right j _ (List.getElem?_eq_getElem hj)).2 i _ hij (List.getElem?_eq_getElem hi)
  unfold fitsB at this
  have := of_decide_eq_true this
  exact ⟨this.1, this.2.1⟩
theorem pts_of {c : Cl} {keys : List Int} {p : Pt} (hk : 11 ≤ c.k ∧ c.k ≤ 17) (hs : c.to < 0 ∨ c.fr < c.to) (h : p ∈ ptsOf c keys) : p.fr = c.fr ∧ p.era = c.era ∧ PGood p ∧ (turnsB p.k = true → ptsOf c keys = [p] ∧ p.k = c.k) ∧ (p.must = true → p.to = c.to ∧ 0 ≤ c.to) ∧ (p.k = c.k ∧ p.u = c.u ∧ p.v = c.v ∧ p.x = c.x ∨ p.u = c.u ∧ p.x = 0 ∧ (p.v = 0 ∨ p.v ∈ keys)) := by
  unfold ptsOf at h ⊢
  by_cases h1 : (openB c && asksB c.k || idleB c) = true
  · rw [if_pos h1] at h; cases h
  · rw [if_neg h1] at h ⊢
    simp only [Bool.or_eq_true, Bool.and_eq_true, not_or, not_and] at h1
    by_cases h2 : openB c = true
    · rw [if_pos h2] at h ⊢
      rw [List.mem_singleton] at h
      subst h
      have ha := h1.1 h2
      unfold asksB at ha
      have ht : turnsB c.k = true := by
        unfold turnsB
        have : ¬ (c.k = 13 ∨ c.k = 16 ∨ c.k = 17) := fun q => ha (decide_eq_true q)
        exact decide_eq_true (by omega)
      refine ⟨rfl, rfl, ⟨fun q => ?_, fun q => (by cases q), fun q => (by cases q), hk⟩, fun _ => ⟨rfl, rfl⟩, fun q => (by cases q), .inl ⟨rfl, rfl, rfl, rfl⟩⟩
      have : turnsB c.k = false := q
      rw [ht] at this; cases this
    · rw [if_neg h2] at h ⊢
      have ho : ¬ (c.to < 0 ∨ c.err = 7) := by
        intro q
        apply h2
        unfold openB
        exact decide_eq_true q
      by_cases h3 : c.k ≠ 17
      · rw [if_pos h3] at h ⊢
        rw [List.mem_singleton] at h
        subst h
        refine ⟨rfl, rfl, ⟨fun _ => rfl, fun _ => ?_, fun _ => ?_, hk⟩, fun _ => ⟨rfl, rfl⟩, fun _ => ⟨rfl, ?_⟩, .inl ⟨rfl, rfl, rfl, rfl⟩⟩
        · show 0 ≤ c.to; omega
        · show c.fr ≤ c.to; omega
        · omega
      · rw [if_neg h3] at h ⊢
        rcases List.mem_cons.1 h with rfl | h
        · refine ⟨rfl, rfl, ⟨fun _ => rfl, fun _ => ?_, fun _ => ?_, by show (11 : Int) ≤ 13 ∧ (13 : Int) ≤ 17; omega⟩, fun q => ?_, fun _ => ⟨rfl, by omega⟩, .inr ⟨rfl, rfl, .inl rfl⟩⟩
          · show 0 ≤ c.to; omega
          · show c.fr ≤ c.to; omega
          · have : turnsB 13 = true := q
            cases this
        · by_cases h4 : c.is = true
          · rw [if_pos h4] at h
            unfold nears at h
            obtain ⟨key, hkey, rfl⟩ := List.mem_map.1 h
            refine ⟨rfl, rfl, ⟨fun _ => rfl, fun _ => ?_, fun _ => ?_, by show (11 : Int) ≤ 16 ∧ (16 : Int) ≤ 17; omega⟩, fun q => ?_, fun _ => ⟨rfl, by omega⟩, .inr ⟨rfl, rfl, .inr (List.mem_filter.1 hkey).1⟩⟩
            · show 0 ≤ c.to; omega
            · show c.fr ≤ c.to; omega
            · have : turnsB 16 = true := q
              cases this
          · rw [if_neg h4] at h; cases h
theorem mem_points {l : List Cl} {p : Pt} : p ∈ pointsOf l ↔ ∃ c ∈ l, p ∈ ptsOf c (keysOf l) := by unfold pointsOf pointsK; exact List.mem_flatMap
theorem HistIn.pairs {l : List Cl} (h : HistIn l) {P : Pt → Pt → Prop} (h1 : ∀ c ∈ l, (ptsOf c (keysOf l)).Pairwise P) (h2 : ∀ a ∈ l, ∀ b ∈ l, a.fr < b.fr → a.era ≤ b.era → ∀ p ∈ ptsOf a (keysOf l), ∀ q ∈ ptsOf b (keysOf l), P p q) : (pointsOf l).Pairwise P := by
  unfold pointsOf pointsK
  rw [List.pairwise_flatMap]
  exact ⟨h1, List.Pairwise.imp_of_mem (fun ha hb hab p hp q hq => h2 _ ha _ hb hab.1 hab.2 p hp q hq) h.fits⟩
theorem HistIn.same {l : List Cl} (h : HistIn l) {a b : Cl} (ha : a ∈ l) (hb : b ∈ l) (he : a.fr = b.fr) : a = b := by
  obtain ⟨i, hi, rfl⟩ := List.getElem_of_mem ha
  obtain ⟨j, hj, rfl⟩ := List.getElem_of_mem hb
  have hp := List.pairwise_iff_getElem.1 h.fits
  rcases Nat.lt_trichotomy i j with q | q | q
  · have := (hp i j hi hj q).1; omega
  · subst q; rfl
  · have := (hp j i hj hi q).1; omega
theorem HistIn.points {l : List Cl} (h : HistIn l) : PsGood (pointsOf l) (l.map fun c => c.fr) := by
  have pf := fun {c : Cl} (hc : c ∈ l) {p : Pt} (hp : p ∈ ptsOf c (keysOf l)) => pts_of (keys := keysOf l) (p := p) ⟨(h.may hc).1, (h.may hc).2.1⟩ (h.may hc).2.2.2.2 hp
  refine ⟨fun p hp => ?_, h.pairs (fun c hc => ?_) (fun a ha b hb hab _ p hp q hq _ => ?_), h.pairs (fun c hc => ?_) (fun a ha b hb _ hab p hp q hq => ?_), fun p hp q hq he => ?_, fun p hp => ?_, by rw [List.length_map]; exact h.few⟩
  · obtain ⟨c, hc, hp⟩ := mem_points.1 hp
    exact (pf hc hp).2.2.1
  · rw [List.pairwise_iff_forall_sublist]
    intro p q hs ht
    have hp := hs.subset (List.mem_cons_self ..)
    have hq := hs.subset (List.mem_cons_of_mem _ (List.mem_cons_self ..))
    have hlen := hs.length_le
    rcases ht with ht | ht
    · rw [((pf hc hp).2.2.2.1 ht).1] at hlen; simp at hlen
    · rw [((pf hc hq).2.2.2.1 ht).1] at hlen; simp at hlen
  · rw [(pf ha hp).1, (pf hb hq).1]; omega
  · rw [List.pairwise_iff_forall_sublist]
    intro p q hs
    have hp := hs.subset (List.mem_cons_self ..)
    have hq := hs.subset (List.mem_cons_of_mem _ (List.mem_cons_self ..))
    rw [(pf hc hp).2.1, (pf hc hq).2.1]; exact Int.le_refl _
  · rw [(pf ha hp).2.1, (pf hb hq).2.1]; exact hab
  · obtain ⟨a, ha, hp⟩ := mem_points.1 hp
    obtain ⟨b, hb, hq⟩ := mem_points.1 hq
    rw [(pf ha hp).1, (pf hb hq).1] at he
    obtain rfl := h.same ha hb he
    rw [(pf ha hp).2.1, (pf ha hq).2.1]
  · obtain ⟨a, ha, hp⟩ := mem_points.1 hp
    rw [(pf ha hp).1]
    exact List.mem_map.2 ⟨a, ha, rfl⟩
theorem names_fine {l : List Cl} (h : HistIn l) : ∀ x ∈ keysOf l, -9223372036854775808 ≤ x ∧ x ≤ 9223372036854775807 := by
  intro x hx
  unfold keysOf at hx
  rw [mem_uniq] at hx
  unfold namesOf at hx
  obtain ⟨c, hc, hx⟩ := List.mem_flatMap.1 hx
  have hf := h.fine c hc
  split at hx
  · simp at hx
    rcases hx with rfl | rfl
    · exact hf.u
    · exact hf.v
  · simp at hx
    subst hx; exact hf.u
theorem keys_length (l : List Cl) : (keysOf l).length ≤ 2 * l.length := by
  have h1 : (namesOf l).length ≤ 2 * l.length := by
    induction l with
    | nil => exact Nat.le_refl _
    | cons c l ih =>
      unfold namesOf at ih ⊢
      rw [List.flatMap_cons, List.length_append, List.length_cons]
      split
      · simp at ih ⊢; omega
      · simp at ih ⊢; omega
  unfold keysOf uniq Lib.compact Lib.compactUpTo
  rw [List.length_map]
  refine Nat.le_trans (List.length_filter_le _ _) ?_
  rw [List.length_range]
  unfold sorted
  simpa using h1
theorem pts_length (c : Cl) (keys : List Int) : (ptsOf c keys).length ≤ 1 + keys.length := by
  unfold ptsOf
  split
  · simp
  · split
    · simp
    · split
      · simp
      · split
        · simp only [List.length_cons]
          unfold nears
          rw [List.length_map]
          have := List.length_filter_le Hs.isV keys
          omega
        · simp
theorem flat_length_le {α β : Type} (f : α → List β) (n : Nat) : ∀ (l : List α), (∀ a ∈ l, (f a).length ≤ n) → (l.flatMap f).length ≤ l.length * n
  | [], _ => by simp
  | a :: l, h => by
    rw [List.flatMap_cons, List.length_append, List.length_cons, Nat.add_mul, Nat.one_mul]
    have h1 := h a (List.mem_cons_self ..)
    have h2 := flat_length_le f n l (fun b hb => h b (List.mem_cons_of_mem _ hb))
    omega
theorem flat_count_le {α β : Type} (f : α → List β) (p : β → Bool) : ∀ (l : List α), (∀ a ∈ l, (f a).countP p ≤ 1) → (l.flatMap f).countP p ≤ l.length
  | [], _ => by simp
  | a :: l, h => by
    rw [List.flatMap_cons, List.countP_append, List.length_cons]
    have h1 := h a (List.mem_cons_self ..)
    have h2 := flat_count_le f p l (fun b hb => h b (List.mem_cons_of_mem _ hb))
    omega
theorem HistIn.tn {l : List Cl} (h : HistIn l) : tn (pointsOf l) ≤ l.length := by
  refine flat_count_le _ _ l (fun c hc => ?_)
  by_cases hx : ∃ p ∈ ptsOf c (keysOf l), turnsB p.k = true
  · obtain ⟨p, hp, ht⟩ := hx
    rw [((pts_of ⟨(h.may hc).1, (h.may hc).2.1⟩ (h.may hc).2.2.2.2 hp).2.2.2.1 ht).1]
    rw [List.countP_singleton]
    split <;> simp
  · rw [List.countP_eq_zero.2 (fun p hp ht => hx ⟨p, hp, ht⟩)]
    exact Nat.zero_le _
theorem HistIn.ain {l : List Cl} (h : HistIn l) {g : List Arc} (hr : Rises g) (hg : g.length ≤ 800) : AIn (pointsOf l) g := by
  have ht := h.tn
  have hf := h.few
  refine ⟨hr, by omega, fun p hp => ?_, ?_, h.points.bound⟩
  · obtain ⟨c, hc, hp⟩ := mem_points.1 hp
    have hc' := h.fine c hc
    have hpt := pts_of ⟨(h.may hc).1, (h.may hc).2.1⟩ (h.may hc).2.2.2.2 hp
    have hkk := hpt.2.2.1.kind
    have h0 := hc'.u
    have h1 := hc'.v
    have h2 := hc'.x
    unfold opOf Gr.Op.Fine
    simp only []
    rcases hpt.2.2.2.2.2 with ⟨q1, q2, q3, q4⟩ | ⟨q1, q2, q3⟩
    · rw [q2, q3, q4]; omega
    · have hv : -9223372036854775808 ≤ p.v ∧ p.v ≤ 9223372036854775807 := by
        rcases q3 with q | q
        · rw [q]; omega
        · exact names_fine h _ q
      rw [q1, q2]; omega
  · have h1 := flat_length_le (fun c => ptsOf c (keysOf l)) (1 + 2 * l.length) l (fun c _ => Nat.le_trans (pts_length c _) (by have := keys_length l; omega))
    have h2 : (pointsOf l).length ≤ l.length * (1 + 2 * l.length) := h1
    have h3 : l.length * (1 + 2 * l.length) ≤ 9 * 19 := Nat.mul_le_mul (by omega) (by omega)
    omega
end Go.Proofs.YtpdfmfkoopdfgaaGreatDoor
end
section
namespace Go.Proofs.YtpdfmfkoopdfgaaGreatDoor
set_option maxRecDepth 100000
open Go.RowKit Aid Gr Hs LinP HeapP

theorem nan79 (x : Int) (w : World) : Calls Tryz.prog 79 #[.int .u64 x] w fun e w' => e = .returned (.bool false) ∧ w = w' := by
  have f0 : (x != x) = false := by simp
  go_enter Tryz.func79, Tryz.ntmps79
  go_wp2
  go_ret
  exact ⟨rfl, rfl⟩
theorem compare43 (x y : Int) (w : World) : Calls Tryz.prog 43 #[.int .u64 x, .int .u64 y] w fun e w' => e = .returned (.int .i64 (Lib.compareInt x y)) ∧ w = w' := by
  have D := Lib.hid (fun (z : Int) (W : World) => nan79 z W)
  by_cases h1 : x < y
  · have hr : Lib.compareInt x y = -1 := by unfold Lib.compareInt; rw [if_pos h1]
    rw [hr]
    go_enter Tryz.func43, Tryz.ntmps43
    go_wp2_with (go_at_call 79; ((with_reducible refine (D.out _ _).mono ?_); rintro e w2 ⟨rfl, rfl⟩))
    go_ret
    exact ⟨rfl, rfl⟩
  · by_cases h2 : y < x
    · have hr : Lib.compareInt x y = 1 := by unfold Lib.compareInt; rw [if_neg h1, if_pos h2]
      rw [hr]
      go_enter Tryz.func43, Tryz.ntmps43
      go_wp2_with (go_at_call 79; ((with_reducible refine (D.out _ _).mono ?_); rintro e w2 ⟨rfl, rfl⟩))
      go_ret
      exact ⟨rfl, rfl⟩
    · have hr : Lib.compareInt x y = 0 := by unfold Lib.compareInt; rw [if_neg h1, if_neg h2]
      rw [hr]
      go_enter Tryz.func43, Tryz.ntmps43
      go_wp2_with (go_at_call 79; ((with_reducible refine (D.out _ _).mono ?_); rintro e w2 ⟨rfl, rfl⟩))
      go_ret
      exact ⟨rfl, rfl⟩
/-- The first that is not 0. -/
def orI : List Int → Int
  | [] => 0
  | x :: l => if x = 0 then orI l else x
theorem orI_zero {l : List Int} (h : ∀ (j : Nat) (x : Int), l[j]? = some x → x = 0) : orI l = 0 := by
  induction l with
  | nil => rfl
  | cons x l ih => rw [orI, if_pos (h 0 x rfl)]; exact ih (fun j y hy => h (j + 1) y (by simpa using hy))
theorem orI_hit : ∀ {l : List Int} {k : Nat} {x : Int}, (∀ (j : Nat) (y : Int), j < k → l[j]? = some y → y = 0) → l[k]? = some x → x ≠ 0 → orI l = x
  | [], k, x, _, h, _ => by simp at h
  | y :: l, 0, x, _, h, hx => by simp at h; subst h; rw [orI, if_neg hx]
  | y :: l, k + 1, x, hz, h, hx => by
    rw [orI, if_pos (hz 0 y (by omega) rfl)]
    exact orI_hit (k := k) (fun j z hj hz2 => hz (j + 1) z (by omega) (by simpa using hz2)) (by simpa using h) hx
set_option maxHeartbeats 2000000 in
theorem or41 (A : Option Addr) (c nn : Nat) (l : List Int) (w : World) (hn : nn = l.length) (hl : Sl w A (l.map (Value.int .i64))) (h40 : l.length ≤ 100000) :
    Calls Tryz.prog 41 #[.slice A nn c] w fun e w' => e = .returned (.int .i64 (orI l)) ∧ w = w' := by
  have HN0 := Lib.hid hn
  have HL := Lib.hid hl
  have nb : nn ≤ 100000 := by omega
  clear hl hn h40
  go_enter Tryz.func41, Tryz.ntmps41
  go_wp2
  go_loopw [8] (fun i wr => ∃ k : Nat, k ≤ nn ∧ i = .int .i64 k ∧ (∀ (j : Nat) (y : Int), j < k → l[j]? = some y → y = 0) ∧ w = wr) (fun i _ => nn - (intOf i).toNat)
  case atStart => exact ⟨0, Nat.zero_le _, rfl, fun j a hj => absurd hj (Nat.not_lt_zero _), rfl⟩
  case round =>
    obtain ⟨k, hk, rfl, hno, rfl⟩ := hrel
    have HN := Lib.hid hno
    clear hno
    by_cases hlt : k < nn
    · obtain ⟨x, hkn⟩ : ∃ n, l[k]? = some n := ⟨l[k]'(by rw [← HN0.out]; exact hlt), List.getElem?_eq_getElem _⟩
      have hl0 : 0 < (l.map (Value.int .i64)).length := by rw [List.length_map, ← HN0.out]; omega
      obtain ⟨b, off, hA, hc⟩ := HL.out hl0
      subst hA
      have c0 := hc k (.int .i64 x) (by rw [List.getElem?_map, hkn]; rfl)
      have HX := Lib.hid hkn
      clear hc hkn hl0
      have k0 : (0 : Int) ≤ (k : Int) := by omega
      have k1 : (k : Int) < (nn : Int) := by omega
      by_cases hx : x = 0
      · subst hx
        go_wp2
        go_roundw
        case rel =>
          refine ⟨k + 1, by omega, by go_num, fun j y hj hy => ?_, trivial⟩
          rcases Nat.lt_or_ge j k with h | h
          · exact HN.out j y h hy
          · obtain rfl : j = k := by omega
            rw [HX.out] at hy; cases hy; rfl
        case measure => simp [intOf]; omega
      · have hr := Lib.hid (orI_hit HN.out HX.out hx)
        have f0 : (x != 0) = true := by simpa using hx
        go_wp2
        go_ret
        exact ⟨by rw [hr.out]; rfl, rfl⟩
    · have hr := Lib.hid (orI_zero (l := l) fun j y hy => HN.out j y (by have := (List.getElem?_eq_some_iff.1 hy).1; have := HN0.out; omega) hy)
      go_wp2
      go_ret
      exact ⟨by rw [hr.out]; rfl, rfl⟩
end Go.Proofs.YtpdfmfkoopdfgaaGreatDoor
end
section
namespace Go.Proofs.YtpdfmfkoopdfgaaGreatDoor
set_option maxRecDepth 100000
open Go.RowKit Aid Gr Hs LinP HeapP

def foldG (g : List Arc) : List Pt → List Arc
  | [] => g
  | p :: ws => foldG (doG g (opOf p)) ws
def Fits (g : List Arc) : List Pt → Prop
  | [] => True
  | p :: ws => (p.must = true → fitR p (doA g (opOf p)) = true) ∧ Fits (doG g (opOf p)) ws
/-- Points in a row: an order. -/
structure Lined (ps : List Pt) (ws : List Pt) (g : List Arc) : Prop where
  sub : ∀ p ∈ ws, p ∈ ps
  nodup : ws.Pairwise fun p q => p ≠ q
  must : ∀ p ∈ ps, p.must = true → p ∈ ws
  eras : ws.Pairwise fun p q => p.era ≤ q.era
  ord : ws.Pairwise fun p q => p.era = q.era → ¬ (q.must = true ∧ 0 ≤ q.to ∧ q.to < p.fr)
  fit : Fits g ws
theorem era_take {ps : List Pt} : ∀ p ∈ ps.take (eraLen ps), p.era = (ps.headD ptD).era := fun r hr => by
  obtain ⟨i, hi, hir⟩ := List.getElem_of_mem hr
  rw [List.length_take] at hi
  rw [List.getElem_take] at hir
  subst hir
  unfold eraLen at hi
  split at hi
  · rename_i k hk
    obtain ⟨hk1, hk2, hk3⟩ := List.findIdx?_eq_some_iff_getElem.1 hk
    have := hk3 i (by omega)
    simpa using this
  · rename_i hk
    rw [List.findIdx?_eq_none_iff] at hk
    simpa using hk _ (List.getElem_mem (by omega))
end Go.Proofs.YtpdfmfkoopdfgaaGreatDoor
end
