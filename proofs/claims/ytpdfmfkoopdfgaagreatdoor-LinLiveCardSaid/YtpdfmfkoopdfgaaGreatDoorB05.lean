/- GKeys, GFind. -/
import Derived.Test.YtpdfmfkoopdfgaaGreatDoorB04
import Derived.Outline
set_option linter.unusedVariables false
set_option linter.unusedSimpArgs false
section
namespace Go.Proofs.YtpdfmfkoopdfgaaGreatDoor.Gr
set_option maxRecDepth 100000
open Go.RowKit

theorem vertex_yes (u : Int) (w : World) (h0 : 0 ≤ u) (h1 : u < 1073741824) : Calls Tryz.prog 109 #[.int .i64 u] w fun e w' => e = .returned (.bool true) ∧ w = w' := by
  go_enter Tryz.func109, Tryz.ntmps109
  go_wp2
  go_ret
  exact ⟨rfl, rfl⟩
theorem vertex_no (u : Int) (w : World) (h : u < 0 ∨ 1073741824 ≤ u) : Calls Tryz.prog 109 #[.int .i64 u] w fun e w' => e = .returned (.bool false) ∧ w = w' := by
  rcases h with h | h
  · go_enter Tryz.func109, Tryz.ntmps109
    go_wp2
    go_ret
    exact ⟨rfl, rfl⟩
  · have hd : decide (u < 1073741824) = false := by simp; omega
    have h0 : 0 ≤ u := by omega
    go_enter Tryz.func109, Tryz.ntmps109
    go_wp2
    go_ret
    exact ⟨rfl, rfl⟩
/-- wealdref01.Is. -/
theorem is_yes (u : Int) (w : World) (h0 : 0 ≤ u) (h1 : u < 1073741824) : Calls Tryz.prog 18 #[.int .i64 u] w fun e w' => e = .returned (.bool true) ∧ w = w' := by
  have h2 : u ≤ 1073741823 := by omega
  go_enter Tryz.func18, Tryz.ntmps18
  go_wp2
  go_ret
  exact ⟨rfl, rfl⟩
theorem is_no (u : Int) (w : World) (h : u < 0 ∨ 1073741824 ≤ u) : Calls Tryz.prog 18 #[.int .i64 u] w fun e w' => e = .returned (.bool false) ∧ w = w' := by
  rcases h with h | h
  · go_enter Tryz.func18, Tryz.ntmps18
    go_wp2
    go_ret
    exact ⟨rfl, rfl⟩
  · have hd : decide (u ≤ 1073741823) = false := by simp; omega
    have h0 : 0 ≤ u := by omega
    go_enter Tryz.func18, Tryz.ntmps18
    go_wp2
    go_ret
    exact ⟨rfl, rfl⟩
/-- key.Vertex. -/
theorem kv_yes (u : Int) (w : World) (h0 : 0 ≤ u) (h1 : u < 1073741824) : Calls Tryz.prog 87 #[.int .i64 u] w fun e w' => e = .returned (.tuple #[.int .u64 (u * 2147483648), .int .i64 0]) ∧ w = w' := by
  go_enter Tryz.func87, Tryz.ntmps87
  go_wp2_with (go_at_call 109; refine (vertex_yes _ _ h0 h1).mono ?_; rintro e w' ⟨rfl, rfl⟩)
  go_ret2
  exact ⟨rfl, rfl⟩
theorem kv_no (u : Int) (w : World) (h : u < 0 ∨ 1073741824 ≤ u) : Calls Tryz.prog 87 #[.int .i64 u] w fun e w' => e = .returned (.tuple #[.int .u64 0, .int .i64 4]) ∧ w = w' := by
  have H := Lib.hid h
  clear h
  go_enter Tryz.func87, Tryz.ntmps87
  go_wp2_with (go_at_call 109; refine (vertex_no _ _ H.out).mono ?_; rintro e w' ⟨rfl, rfl⟩)
  go_ret2
  exact ⟨rfl, rfl⟩
/-- key.Edge. -/
theorem ke_yes (u v : Int) (w : World) (h0 : 0 ≤ u) (h1 : u < 1073741824) (h2 : 0 ≤ v) (h3 : v < 1073741824) : Calls Tryz.prog 137 #[.int .i64 u, .int .i64 v] w fun e w' => e = .returned (.tuple #[.int .u64 (u * 2147483648 + v + 1), .int .i64 0]) ∧ w = w' := by
  go_enter Tryz.func137, Tryz.ntmps137
  go_wp2_with (first | (go_at_call 87; refine (kv_yes _ _ h0 h1).mono ?_; rintro e w' ⟨rfl, rfl⟩) | (go_at_call 109; refine (vertex_yes _ _ h2 h3).mono ?_; rintro e w' ⟨rfl, rfl⟩))
  go_ret2
  exact ⟨rfl, rfl⟩
theorem ke_no (u v : Int) (w : World) (h : (u < 0 ∨ 1073741824 ≤ u) ∨ (v < 0 ∨ 1073741824 ≤ v)) : Calls Tryz.prog 137 #[.int .i64 u, .int .i64 v] w fun e w' => e = .returned (.tuple #[.int .u64 0, .int .i64 4]) ∧ w = w' := by
  by_cases hu : u < 0 ∨ 1073741824 ≤ u
  · have H := Lib.hid hu
    clear h hu
    go_enter Tryz.func137, Tryz.ntmps137
    go_wp2_with (go_at_call 87; refine (kv_no _ _ H.out).mono ?_; rintro e w' ⟨rfl, rfl⟩)
    go_ret2
    exact ⟨rfl, rfl⟩
  · have H := Lib.hid (h.resolve_left hu)
    have h0 : 0 ≤ u := by omega
    have h1 : u < 1073741824 := by omega
    clear h hu
    go_enter Tryz.func137, Tryz.ntmps137
    go_wp2_with (first | (go_at_call 87; refine (kv_yes _ _ h0 h1).mono ?_; rintro e w' ⟨rfl, rfl⟩) | (go_at_call 109; refine (vertex_no _ _ H.out).mono ?_; rintro e w' ⟨rfl, rfl⟩))
    go_ret2
    exact ⟨rfl, rfl⟩

/-- May it be a vertex? -/
def isV (u : Int) : Bool := decide (0 ≤ u ∧ u < 1073741824)
theorem isV_t {u : Int} (h : isV u = true) : 0 ≤ u ∧ u < 1073741824 := of_decide_eq_true h
theorem isV_f {u : Int} (h : isV u = false) : u < 0 ∨ 1073741824 ≤ u := by have := of_decide_eq_false h; omega
def errV (b : Bool) : Int := if b then 0 else 4
theorem is_any (u : Int) (w : World) : Calls Tryz.prog 18 #[.int .i64 u] w fun e w' => e = .returned (.bool (isV u)) ∧ w = w' := by
  cases h : isV u
  · exact is_no u w (isV_f h)
  · exact is_yes u w (isV_t h).1 (isV_t h).2
theorem vertex_any (u : Int) (w : World) : Calls Tryz.prog 87 #[.int .i64 u] w fun e w' => (∃ k, e = .returned (.tuple #[.int .u64 k, .int .i64 (errV (isV u))])) ∧ w = w' := by
  cases h : isV u
  · exact (kv_no u w (isV_f h)).mono fun e w' hh => ⟨⟨_, hh.1⟩, hh.2⟩
  · exact (kv_yes u w (isV_t h).1 (isV_t h).2).mono fun e w' hh => ⟨⟨_, hh.1⟩, hh.2⟩
theorem edge_any (u v : Int) (w : World) : Calls Tryz.prog 137 #[.int .i64 u, .int .i64 v] w fun e w' => (∃ k, e = .returned (.tuple #[.int .u64 k, .int .i64 (errV (isV u && isV v))])) ∧ w = w' := by
  cases h : isV u
  · exact (ke_no u v w (.inl (isV_f h))).mono fun e w' hh => ⟨⟨_, hh.1⟩, hh.2⟩
  · cases h2 : isV v
    · exact (ke_no u v w (.inr (isV_f h2))).mono fun e w' hh => ⟨⟨_, hh.1⟩, hh.2⟩
    · exact (ke_yes u v w (isV_t h).1 (isV_t h).2 (isV_t h2).1 (isV_t h2).2).mono fun e w' hh => ⟨⟨_, hh.1⟩, hh.2⟩
attribute [irreducible] isV errV
end Go.Proofs.YtpdfmfkoopdfgaaGreatDoor.Gr
end
section
namespace Go.Proofs.YtpdfmfkoopdfgaaGreatDoor.Gr
set_option maxRecDepth 100000
open Go.RowKit

/-- One row lies ahead of another. -/
def Lt (a b : Arc) : Prop := a.u < b.u ∨ a.u = b.u ∧ a.v < b.v
instance (a b : Arc) : Decidable (Lt a b) := by unfold Lt; infer_instance
theorem ord_neg (a b : Arc) : ordI a b < 0 ↔ Lt a b := by
  unfold ordI orI cmpI Lt
  rcases Int.lt_trichotomy a.u b.u with h | h | h
  · simp [h]
  · rw [h]
    rcases Int.lt_trichotomy a.v b.v with g | g | g
    · simp [g]
    · simp [g]
    · have : ¬ a.v < b.v := by omega
      simp [g, this]
  · have h1 : ¬ a.u < b.u := by omega
    have h2 : ¬ a.u = b.u := by omega
    simp [h, h1, h2]
theorem ord_zero (a b : Arc) : ordI a b = 0 ↔ a.u = b.u ∧ a.v = b.v := by
  unfold ordI orI cmpI
  rcases Int.lt_trichotomy a.u b.u with h | h | h
  · have : ¬ a.u = b.u := by omega
    simp [h, this]
  · rw [h]
    rcases Int.lt_trichotomy a.v b.v with g | g | g
    · have : ¬ a.v = b.v := by omega
      simp [g, this]
    · simp [g]
    · have h1 : ¬ a.v < b.v := by omega
      have h2 : ¬ a.v = b.v := by omega
      simp [g, h1, h2]
  · have h1 : ¬ a.u < b.u := by omega
    have h2 : ¬ a.u = b.u := by omega
    simp [h, h1, h2]
theorem Lt.trans {a b c : Arc} (h : Lt a b) (k : Lt b c) : Lt a c := by unfold Lt at *; omega
theorem Lt.irrefl (a : Arc) : ¬ Lt a a := by unfold Lt; omega
/-- The rows rise. -/
def Rises (l : List Arc) : Prop := ∀ (i j : Nat) (a b : Arc), i < j → l[i]? = some a → l[j]? = some b → Lt a b
/-- Where a row stands, or would stand. -/
def place (l : List Arc) (t : Arc) : Nat := (l.takeWhile fun a => decide (Lt a t)).length
theorem place_is {l : List Arc} {t : Arc} : ∀ {i : Nat}, i ≤ l.length → (∀ k a, k < i → l[k]? = some a → Lt a t) → (∀ a, l[i]? = some a → ¬ Lt a t) → place l t = i := by
  unfold place
  induction l with
  | nil => intro i hi _ _; simp at hi; simp [hi]
  | cons x l ih =>
    intro i hi h1 h2
    cases i with
    | zero => rw [List.takeWhile_cons_of_neg (by simpa using h2 x rfl)]; rfl
    | succ i =>
      rw [List.takeWhile_cons_of_pos (by simpa using h1 0 x (by omega) rfl), List.length_cons]
      rw [ih (by simpa using hi) (fun k a hk ha => h1 (k + 1) a (by omega) (by simpa using ha)) (fun a ha => h2 a (by simpa using ha))]
theorem rowOf_first {l : List Arc} {t : Arc} {i : Nat} {a : Arc} (h1 : ∀ k a, k < i → l[k]? = some a → Lt a t) (ha : l[i]? = some a) (he : a.u = t.u ∧ a.v = t.v) : rowOf l t.u t.v = some a := by
  unfold rowOf
  obtain ⟨hlt, hge⟩ := List.getElem?_eq_some_iff.1 ha
  have hn : (l.take i).find? (fun a => decide (a.u = t.u ∧ a.v = t.v)) = none := by
    rw [List.find?_eq_none]
    intro x hx hp
    obtain ⟨k, hk, hkx⟩ := List.getElem_of_mem hx
    rw [List.length_take] at hk
    rw [List.getElem_take] at hkx
    have hl := h1 k x (by omega) (by rw [List.getElem?_eq_getElem (by omega), hkx])
    have hp' : x.u = t.u ∧ x.v = t.v := by simpa using hp
    unfold Lt at hl; omega
  conv => lhs; rw [← List.take_append_drop (i + 1) l]
  rw [List.find?_append, find_split hlt, hn, hge, if_pos (by simpa using he)]; rfl
theorem rowOf_absent {l : List Arc} {t : Arc} {i : Nat} (hs : Rises l) (h1 : ∀ k a, k < i → l[k]? = some a → Lt a t) (h2 : ∀ a, l[i]? = some a → ¬ Lt a t ∧ ¬ (a.u = t.u ∧ a.v = t.v)) : rowOf l t.u t.v = none := by
  unfold rowOf
  rw [List.find?_eq_none]
  intro x hx hp
  obtain ⟨k, hk, hkx⟩ := List.getElem_of_mem hx
  have hp' : x.u = t.u ∧ x.v = t.v := by simpa using hp
  have hkx' : l[k]? = some x := by rw [List.getElem?_eq_getElem hk, hkx]
  rcases Nat.lt_trichotomy k i with h | h | h
  · have := h1 k x h hkx'
    unfold Lt at this; omega
  · subst h
    exact (h2 x hkx').2 hp'
  · have hi : i < l.length := by omega
    have hlt := hs i k l[i] x h (List.getElem?_eq_getElem hi) hkx'
    have := (h2 l[i] (List.getElem?_eq_getElem hi)).1
    unfold Lt at *; omega
theorem keep6 {b o p : Nat} {c1 c2 c3 d1 d2 d3 : Value} {W0 w' w'' : World}
    (h : w'.cell? ⟨b, o, none⟩ = some c1 ∧ w'.cell? ⟨b, o + 1, none⟩ = some c2 ∧ w'.cell? ⟨b, o + 2, none⟩ = some c3 ∧ w'.cell? ⟨p, 0, none⟩ = some d1 ∧ w'.cell? ⟨p, 1, none⟩ = some d2 ∧ w'.cell? ⟨p, 2, none⟩ = some d3 ∧ Below W0.heap.size W0 w') (hb : Below w'.heap.size w' w'') :
    w''.cell? ⟨b, o, none⟩ = some c1 ∧ w''.cell? ⟨b, o + 1, none⟩ = some c2 ∧ w''.cell? ⟨b, o + 2, none⟩ = some c3 ∧ w''.cell? ⟨p, 0, none⟩ = some d1 ∧ w''.cell? ⟨p, 1, none⟩ = some d2 ∧ w''.cell? ⟨p, 2, none⟩ = some d3 ∧ Below W0.heap.size W0 w'' := by
  obtain ⟨h1, h2, h3, h4, h5, h6, h7⟩ := h
  have l1 := World.block_lt_of_cell? _ _ h1
  have l4 := World.block_lt_of_cell? _ _ h4
  exact ⟨(hb.cell (p := ⟨b, o, none⟩) l1).trans h1, (hb.cell (p := ⟨b, o + 1, none⟩) l1).trans h2, (hb.cell (p := ⟨b, o + 2, none⟩) l1).trans h3, (hb.cell (p := ⟨p, 0, none⟩) l4).trans h4, (hb.cell (p := ⟨p, 1, none⟩) l4).trans h5, (hb.cell (p := ⟨p, 2, none⟩) l4).trans h6, h7.trans (hb.mono h7.size)⟩

theorem below_drewN {B : Nat} {w W : World} (h : Below B w W) : ∀ n, Below B w (W.drewN n)
  | 0 => h
  | n + 1 => (below_drewN h n).drew
set_option maxHeartbeats 2000000 in
theorem bsearch_any (A : Option Addr) (c n : Nat) (l : List Arc) (t : Arc) (w : World) (hn : n = l.length) (hl : Arcs w A l) (hs : Rises l) (h40 : l.length ≤ 1000) :
    Calls Tryz.prog 151 #[.slice A n c, t.val, .func (.func 152) #[] #[]] w fun e w' => e = .returned (.tuple #[.int .i64 (place l t : Nat), .bool (hasB l t.u t.v)]) ∧ Below w.heap.size w w' := by
  subst hn
  have HL := Lib.hid hl
  have HS := Lib.hid hs
  clear hl hs
  unfold Arc.val
  go_enter Tryz.func151, Tryz.ntmps151
  go_wp2
  have bB := Lib.hid ((Below.refl w.heap.size w).alloc (Nat.le_refl _) (.cells #[.int .i64 t.u, .int .i64 t.v, .int .u64 t.w] 60))
  have d1 : (w.alloc (.cells #[.int .i64 t.u, .int .i64 t.v, .int .u64 t.w] 60)).cell? ⟨w.heap.size, 0, none⟩ = some (.int .i64 t.u) := by rw [World.cell?_alloc_new]; rfl
  have d2 : (w.alloc (.cells #[.int .i64 t.u, .int .i64 t.v, .int .u64 t.w] 60)).cell? ⟨w.heap.size, 1, none⟩ = some (.int .i64 t.v) := by rw [World.cell?_alloc_new]; rfl
  have d3 : (w.alloc (.cells #[.int .i64 t.u, .int .i64 t.v, .int .u64 t.w] 60)).cell? ⟨w.heap.size, 2, none⟩ = some (.int .u64 t.w) := by rw [World.cell?_alloc_new]; rfl
  generalize w.alloc (.cells #[.int .i64 t.u, .int .i64 t.v, .int .u64 t.w] 60) = W1 at bB d1 d2 d3 ⊢
  generalize w.heap.size = p at d1 d2 d3 ⊢
  have D := Lib.hid (And.intro d1 (And.intro d2 d3))
  clear d1 d2 d3
  go_loopw [9, 10] (fun i j wr => ∃ x y : Nat, x ≤ y ∧ y ≤ l.length ∧ i = .int .i64 x ∧ j = .int .i64 y ∧ (∀ k a, k < x → l[k]? = some a → Lt a t) ∧ (∀ k a, y ≤ k → l[k]? = some a → ¬ Lt a t) ∧ Below W1.heap.size W1 wr) (fun i j _ => (intOf j).toNat - (intOf i).toNat)
  case atStart => exact ⟨0, l.length, Nat.zero_le _, Nat.le_refl _, rfl, rfl, fun k a hk => by omega, fun k a hk ha => by have := (List.getElem?_eq_some_iff.1 ha).1; omega, Below.refl _ _⟩
  case round =>
    obtain ⟨x, y, hxy, hyn, rfl, rfl, hlo, hhi, hb⟩ := hrel
    have HLo := Lib.hid hlo
    have HHi := Lib.hid hhi
    have HB := Lib.hid hb
    have HB2 := Lib.hid (bB.out.trans (hb.mono bB.out.size))
    clear hlo hhi hb
    have e1 := Lib.hid ((HB.out.cell (p := ⟨p, 0, none⟩) (World.block_lt_of_cell? _ _ D.out.1)).trans D.out.1)
    have e2 := Lib.hid ((HB.out.cell (p := ⟨p, 1, none⟩) (World.block_lt_of_cell? _ _ D.out.2.1)).trans D.out.2.1)
    have e3 := Lib.hid ((HB.out.cell (p := ⟨p, 2, none⟩) (World.block_lt_of_cell? _ _ D.out.2.2)).trans D.out.2.2)
    by_cases hlt : x < y
    · obtain ⟨b, off, hA, hcs⟩ := (HL.out.below HB2.out (Nat.le_refl _)).2.2 (by omega)
      subst hA
      obtain ⟨m, hmid, hxm, hmy⟩ : ∃ m : Nat, ((x : Int) + (y : Int)) / 2 = (m : Int) ∧ x ≤ m ∧ m < y := ⟨(x + y) / 2, by omega, by omega, by omega⟩
      have hml : m < l.length := by omega
      have hla := Lib.hid (List.getElem?_eq_getElem hml)
      obtain ⟨c1, c2, c3⟩ := hcs m l[m] hla.out
      clear hcs
      generalize l[m] = a at c1 c2 c3 hla
      have HK : Hid (wr.drew.cell? ⟨b, off + m * 3, none⟩ = some (.int .i64 a.u) ∧ wr.drew.cell? ⟨b, off + m * 3 + 1, none⟩ = some (.int .i64 a.v) ∧ wr.drew.cell? ⟨b, off + m * 3 + 2, none⟩ = some (.int .u64 a.w) ∧ wr.drew.cell? ⟨p, 0, none⟩ = some (.int .i64 t.u) ∧ wr.drew.cell? ⟨p, 1, none⟩ = some (.int .i64 t.v) ∧ wr.drew.cell? ⟨p, 2, none⟩ = some (.int .u64 t.w) ∧ Below wr.heap.size wr wr.drew) :=
        ⟨c1, c2, c3, e1.out, e2.out, e3.out, (Below.refl _ _).drew⟩
      clear c1 c2 c3 e1 e2 e3
      have i1 : (0 : Int) ≤ (m : Int) := by omega
      have i2 : (m : Int) < (l.length : Int) := by omega
      go_wp2
      go_region_held3 (fun w' => w'.cell? ⟨b, off + m * 3, none⟩ = some (.int .i64 a.u) ∧ w'.cell? ⟨b, off + m * 3 + 1, none⟩ = some (.int .i64 a.v) ∧ w'.cell? ⟨b, off + m * 3 + 2, none⟩ = some (.int .u64 a.w) ∧ w'.cell? ⟨p, 0, none⟩ = some (.int .i64 t.u) ∧ w'.cell? ⟨p, 1, none⟩ = some (.int .i64 t.v) ∧ w'.cell? ⟨p, 2, none⟩ = some (.int .u64 t.w) ∧ Below wr.heap.size wr w') (first | exact HK.out | assumption | exact keep6 (by assumption) (by assumption))
        (first | (go_at_call 152; refine (order_any a t _).mono ?_; rintro e w' ⟨rfl, hb⟩))
      have HBn := Lib.hid (HB.out.trans (((Below.refl wr.heap.size wr).drew.trans hb).mono HB.out.size))
      clear hb
      cases hd : decide (ordI a t < 0)
      · have hn := Lib.hid (show ¬ Lt a t from fun h => by have := (ord_neg a t).2 h; simp [this] at hd)
        clear hd
        go_wp2
        go_roundw
        case rel =>
          refine ⟨x, m, by omega, by omega, rfl, rfl, HLo.out, fun k q hk hq hlt' => ?_, HBn.out⟩
          rcases Nat.lt_or_ge m k with h | h
          · exact hn.out ((HS.out m k a q h hla.out hq).trans hlt')
          · obtain rfl : k = m := by omega
            rw [hla.out] at hq
            exact hn.out (by cases hq; exact hlt')
        case measure => simp [intOf]; omega
      · have hn := Lib.hid ((ord_neg a t).1 (of_decide_eq_true hd))
        clear hd
        go_wp2
        go_roundw
        case rel =>
          refine ⟨m + 1, y, by omega, hyn, by go_num, rfl, fun k q hk hq => ?_, HHi.out, HBn.out⟩
          rcases Nat.lt_or_ge k m with h | h
          · exact (HS.out k m q a h hq hla.out).trans hn.out
          · obtain rfl : k = m := by omega
            rw [hla.out] at hq
            cases hq; exact hn.out
        case measure => simp [intOf]; omega
    · obtain rfl : x = y := by omega
      have hpl := Lib.hid (place_is hyn HLo.out (fun a ha => HHi.out x a (Nat.le_refl _) ha))
      by_cases hxl : x < l.length
      · obtain ⟨b, off, hA, hcs⟩ := (HL.out.below HB2.out (Nat.le_refl _)).2.2 (by omega)
        subst hA
        have hla := Lib.hid (List.getElem?_eq_getElem hxl)
        obtain ⟨c1, c2, c3⟩ := hcs x l[x] hla.out
        clear hcs
        generalize l[x] = a at c1 c2 c3 hla
        have HK : Hid (wr.drew.cell? ⟨b, off + x * 3, none⟩ = some (.int .i64 a.u) ∧ wr.drew.cell? ⟨b, off + x * 3 + 1, none⟩ = some (.int .i64 a.v) ∧ wr.drew.cell? ⟨b, off + x * 3 + 2, none⟩ = some (.int .u64 a.w) ∧ wr.drew.cell? ⟨p, 0, none⟩ = some (.int .i64 t.u) ∧ wr.drew.cell? ⟨p, 1, none⟩ = some (.int .i64 t.v) ∧ wr.drew.cell? ⟨p, 2, none⟩ = some (.int .u64 t.w) ∧ Below wr.heap.size wr wr.drew) :=
          ⟨c1, c2, c3, e1.out, e2.out, e3.out, (Below.refl _ _).drew⟩
        clear c1 c2 c3 e1 e2 e3
        have i1 : (0 : Int) ≤ (x : Int) := by omega
        have i2 : (x : Int) < (l.length : Int) := by omega
        go_wp2
        go_region_held3 (fun w' => w'.cell? ⟨b, off + x * 3, none⟩ = some (.int .i64 a.u) ∧ w'.cell? ⟨b, off + x * 3 + 1, none⟩ = some (.int .i64 a.v) ∧ w'.cell? ⟨b, off + x * 3 + 2, none⟩ = some (.int .u64 a.w) ∧ w'.cell? ⟨p, 0, none⟩ = some (.int .i64 t.u) ∧ w'.cell? ⟨p, 1, none⟩ = some (.int .i64 t.v) ∧ w'.cell? ⟨p, 2, none⟩ = some (.int .u64 t.w) ∧ Below wr.heap.size wr w') (first | exact HK.out | assumption | exact keep6 (by assumption) (by assumption))
          (first | (go_at_call 152; refine (order_any a t _).mono ?_; rintro e w' ⟨rfl, hb⟩))
        have HBn := Lib.hid (bB.out.trans ((HB.out.trans (((Below.refl wr.heap.size wr).drew.trans hb).mono HB.out.size)).mono bB.out.size))
        clear hb
        cases hd : (ordI a t == 0)
        · have hno := Lib.hid (show hasB l t.u t.v = false from by
            unfold hasB
            rw [rowOf_absent HS.out HLo.out (fun q hq => ⟨HHi.out x q (Nat.le_refl _) hq, fun he => by
              rw [hla.out] at hq; cases hq
              rw [(ord_zero a t).2 he] at hd; cases hd⟩)]; rfl)
          clear hd
          go_wp2
          go_ret2
          exact ⟨by rw [hpl.out, hno.out]; rfl, HBn.out⟩
        · have hyes := Lib.hid (show hasB l t.u t.v = true from by
            unfold hasB
            rw [rowOf_first HLo.out hla.out ((ord_zero a t).1 (by simpa using hd))]; rfl)
          clear hd
          go_wp2
          go_ret2
          exact ⟨by rw [hpl.out, hyes.out]; rfl, HBn.out⟩
      · have hno := Lib.hid (show hasB l t.u t.v = false from by
          unfold hasB
          rw [rowOf_absent HS.out HLo.out (fun q hq => by have := (List.getElem?_eq_some_iff.1 hq).1; omega)]; rfl)
        have HBn := Lib.hid HB2.out
        have hd : decide ((x : Int) < (l.length : Int)) = false := by simp; omega
        go_wp2
        go_quiet (fail)
        go_wp2
        go_ret2
        exact ⟨by rw [hpl.out, hno.out]; rfl, below_drewN HBn.out _⟩
theorem find_any (A : Option Addr) (c n : Nat) (l : List Arc) (u v : Int) (w : World) (hn : n = l.length) (hl : Arcs w A l) (hs : Rises l) (h40 : l.length ≤ 1000) :
    Calls Tryz.prog 138 #[.slice A n c, .int .i64 u, .int .i64 v] w fun e w' => e = .returned (.tuple #[.int .i64 (place l ⟨u, v, 0⟩ : Nat), .bool (hasB l u v)]) ∧ Below w.heap.size w w' := by
  have HB := Lib.hid (bsearch_any A c n l ⟨u, v, 0⟩ w hn hl hs h40)
  unfold Arc.val at HB
  clear hn hl hs
  go_enter Tryz.func138, Tryz.ntmps138
  go_wp2_with (go_at_call 151; ((with_reducible refine HB.out.mono ?_); rintro e w' ⟨rfl, hb⟩))
  go_ret2
  exact ⟨rfl, by assumption⟩
theorem in_any (A : Option Addr) (c n : Nat) (l : List Arc) (u v : Int) (w : World) (hn : n = l.length) (hl : Arcs w A l) (hs : Rises l) (h40 : l.length ≤ 1000) :
    Calls Tryz.prog 117 #[.slice A n c, .int .i64 u, .int .i64 v] w fun e w' => e = .returned (.bool (hasB l u v)) ∧ Below w.heap.size w w' := by
  have HB := Lib.hid (find_any A c n l u v w hn hl hs h40)
  clear hn hl hs
  go_enter Tryz.func117, Tryz.ntmps117
  go_wp2_with (go_at_call 138; ((with_reducible refine HB.out.mono ?_); rintro e w' ⟨rfl, hb⟩))
  go_ret
  exact ⟨rfl, by assumption⟩
/-- Where a row is found its weight stands. -/
theorem place_hit {l : List Arc} {u v : Int} (hs : Rises l) (h : hasB l u v = true) : ∃ a, l[place l ⟨u, v, 0⟩]? = some a ∧ a.u = u ∧ a.v = v ∧ hasW l u v = a.w := by
  unfold hasB at h
  cases hr : rowOf l u v with
  | none => rw [hr] at h; cases h
  | some a =>
    have hp := List.find?_some hr
    have hp' : a.u = u ∧ a.v = v := by simpa using hp
    obtain ⟨k, hk, hka⟩ := List.getElem_of_mem (List.mem_of_find?_eq_some hr)
    have hka' : l[k]? = some a := by rw [List.getElem?_eq_getElem hk, hka]
    have : place l ⟨u, v, 0⟩ = k := place_is (by omega) (fun j b hj hb => by
      have := hs j k b a hj hb hka'
      unfold Lt at *
      show b.u < u ∨ b.u = u ∧ b.v < v
      omega) (fun b hb => by
      rw [hka'] at hb; cases hb
      unfold Lt
      show ¬ (a.u < u ∨ a.u = u ∧ a.v < v)
      omega)
    rw [this]
    exact ⟨a, hka', hp'.1, hp'.2, by unfold hasW; rw [hr]; rfl⟩
theorem no_weight {l : List Arc} {u v : Int} (h : hasB l u v = false) : hasW l u v = 0 := by
  unfold hasB at h
  unfold hasW
  cases hr : rowOf l u v with
  | none => rfl
  | some a => rw [hr] at h; cases h
theorem has_any (A : Option Addr) (c n : Nat) (l : List Arc) (u v : Int) (w : World) (hn : n = l.length) (hl : Arcs w A l) (hs : Rises l) (h40 : l.length ≤ 1000) :
    Calls Tryz.prog 122 #[.slice A n c, .int .i64 u, .int .i64 v] w fun e w' => e = .returned (.tuple #[.int .u64 (hasW l u v), .bool (hasB l u v)]) ∧ Below w.heap.size w w' := by
  subst hn
  have HF := Lib.hid (find_any A c l.length l u v w rfl hl hs h40)
  have HL := Lib.hid hl
  cases hb : hasB l u v
  · have hw := Lib.hid (no_weight hb)
    rw [hb] at HF
    clear hl hs hb
    go_enter Tryz.func122, Tryz.ntmps122
    go_wp2_with (go_at_call 138; ((with_reducible refine HF.out.mono ?_); rintro e w' ⟨rfl, hb'⟩; have HB := Lib.hid hb'; clear hb'))
    go_ret2
    exact ⟨by rw [hw.out]; rfl, HB.out⟩
  · obtain ⟨a, ha, _, _, hw⟩ := place_hit hs hb
    have HW := Lib.hid hw
    rw [hb] at HF
    have hlt := (List.getElem?_eq_some_iff.1 ha).1
    obtain ⟨b, off, hA, hcs⟩ := hl.2.2 (by omega)
    subst hA
    obtain ⟨_, _, c3⟩ := hcs _ a ha
    have hblk := Lib.hid (World.block_lt_of_cell? _ _ c3)
    have hi : (place l ⟨u, v, 0⟩ : Int) < (l.length : Int) := by omega
    generalize place l ⟨u, v, 0⟩ = k at *
    clear hl hs hb hcs hlt hw
    go_enter Tryz.func122, Tryz.ntmps122
    go_wp2_with (go_at_call 138; ((with_reducible refine HF.out.mono ?_); rintro e w' ⟨rfl, hb'⟩; have HB := Lib.hid hb'; have c4 := (hb'.cell (p := ⟨b, off + k * 3 + 2, none⟩) hblk.out).trans c3; clear hb'))
    go_ret2
    exact ⟨by rw [HW.out]; rfl, HB.out⟩
end Go.Proofs.YtpdfmfkoopdfgaaGreatDoor.Gr
end
