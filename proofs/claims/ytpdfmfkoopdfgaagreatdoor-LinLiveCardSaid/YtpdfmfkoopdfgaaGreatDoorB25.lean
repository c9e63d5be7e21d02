/- LDel0, LDel, LDelI. -/
import Derived.Test.YtpdfmfkoopdfgaaGreatDoorB24
import Derived.Test.YtpdfmfkoopdfgaaGreatDoorB15
import Derived.Laws.IdiomCopy
set_option linter.unusedVariables false
set_option linter.unusedSimpArgs false
section
namespace Go.Proofs.YtpdfmfkoopdfgaaGreatDoor
set_option maxRecDepth 100000
open Go.RowKit Aid Gr Hs LinP HeapP

theorem gb_refl (w : World) (r : Option Nat) : w.grownBy w r := ⟨rfl, rfl, rfl, Nat.le_refl _, fun _ _ _ => rfl⟩
theorem gb_trans {a b c : World} {r : Option Nat} (h : a.grownBy b r) (k : b.grownBy c r) : a.grownBy c r :=
  ⟨k.os.trans h.os, k.tape.trans h.tape, k.output.trans h.output, Nat.le_trans h.size k.size, fun i hi hn => (k.block i (Nat.lt_of_lt_of_le hi h.size) hn).trans (h.block i hi hn)⟩
theorem gb_below {w w' : World} (r : Option Nat) (h : Below w.heap.size w w') : w.grownBy w' r := ⟨h.os, h.tape, h.output, h.size, fun k hk _ => h.block k hk⟩
theorem gb_set {w w' : World} {g : Nat} (h : w.grownBy w' (some g)) (k : Nat) (u : Value) : w.grownBy (w'.setCell ⟨g, k, none⟩ u) (some g) :=
  ⟨h.os, h.tape, h.output, by rw [World.size_setCell]; exact h.size, fun i hi hn => (Below.heap_setCell w' ⟨g, k, none⟩ u i (fun e => hn (by rw [e]))).trans (h.block i hi hn)⟩
theorem gb_sets {w : World} {g : Nat} : ∀ (vs : List Value) (o : Nat) (w' : World), w.grownBy w' (some g) → w.grownBy (w'.setCells g o vs) (some g)
  | [], _, _, h => h
  | v :: vs, o, w', h => gb_sets vs (o + 1) _ (gb_set h o v)
theorem own_sets {base : Nat} {e : TypeId} {size g cap n : Nat} {xs : List Value} : ∀ (vs : List Value) (o : Nat) (w : World), n * size ≤ o → w.ownsRow base e size (.slice (some ⟨g, 0, none⟩) n cap) n xs → (w.setCells g o vs).ownsRow base e size (.slice (some ⟨g, 0, none⟩) n cap) n xs
  | [], _, _, _, h => h
  | v :: vs, o, w, ho, h => own_sets vs (o + 1) _ (by omega) (by
      have := own_set h o v
      rwa [List.set_eq_of_length_le (by rw [h.1]; exact ho)] at this)
theorem row_sets {Pd : Value → Prop} {v : Value} {g : Nat} : ∀ (vs : List Value) (o : Nat) (w : World), (∀ u ∈ vs, Pd u) → RowAll Pd v w → RowAll Pd v (w.setCells g o vs)
  | [], _, _, _, h => h
  | x :: vs, o, w, hv, h => row_sets vs (o + 1) _ (fun u hu => hv u (List.mem_cons_of_mem _ hu)) (h.set _ (hv x (List.mem_cons_self ..)))
theorem row_below {Pd : Value → Prop} {v : Value} {w w' : World} (h : RowAll Pd v w) (hl : ∀ g, v.ownBlock = some g → g < w.heap.size) (hb : Below w.heap.size w w') : RowAll Pd v w' := fun g hg j x hx =>
  h g hg j x ((hb.cell (p := ⟨g, j, none⟩) (hl g hg)).symm.trans hx)
theorem nflat_set : ∀ (l : List Nw) (i : Nat) (m : Nw), nflat (l.set i m) = ((nflat l).set (i * 2) m.v0).set (i * 2 + 1) m.v1
  | [], i, m => by simp [nflat]
  | x :: l, 0, m => by simp [nflat]
  | x :: l, i + 1, m => by
    have h := nflat_set l i m
    rw [List.set_cons_succ, nflat, nflat, h, show (i + 1) * 2 = i * 2 + 1 + 1 by omega]
    simp only [List.set_cons_succ]
theorem nflat_take : ∀ (l : List Nw) (n : Nat), nflat (l.take n) = (nflat l).take (n * 2)
  | [], n => by simp [nflat]
  | x :: l, 0 => by simp [nflat]
  | x :: l, n + 1 => by
    have h := nflat_take l n
    rw [List.take_succ_cons, nflat, nflat, h, show (n + 1) * 2 = n * 2 + 1 + 1 by omega]
    simp only [List.take_succ_cons]
/-- A row of states, the call's own. -/
structure Nows (w : World) (base : Nat) (v : Value) (l : List Nw) : Prop where
  own : w.ownsRow base 66 2 v l.length (nflat l)
  kind : RowAll IsSl v w
  ok : ∀ n ∈ l, NwOk w n
theorem Nows.later {w w' : World} {base : Nat} {v : Value} {l : List Nw} (h : Nows w base v l) (hb : Below w.heap.size w w') : Nows w' base v l :=
  ⟨own_below h.own hb, row_below h.kind (fun g hg => (h.own.lt g hg).2) hb, fun n hn => (h.ok n hn).below hb (Nat.le_refl _)⟩
theorem Nows.cells {w : World} {base : Nat} {v : Value} {l : List Nw} (h : Nows w base v l) {j : Nat} {n : Nw} (hj : l[j]? = some n) : ∃ g c, v = .slice (some ⟨g, 0, none⟩) l.length c ∧ w.cell? ⟨g, j * 2, none⟩ = some n.v0 ∧ w.cell? ⟨g, j * 2 + 1, none⟩ = some n.v1 := by
  have hlt := (List.getElem?_eq_some_iff.1 hj).1
  obtain ⟨g, c, hv⟩ : ∃ g c, v = .slice (some ⟨g, 0, none⟩) l.length c := by
    rcases h.own.2 with ⟨_, h0⟩ | ⟨g, cap, cur, hv, _⟩
    · omega
    · exact ⟨g, cap, hv⟩
  obtain ⟨h1, h2⟩ := nflat_get l j n hj
  have hc := World.ownsRow.cells h.own (g := g) (by rw [hv]; rfl)
  refine ⟨g, c, hv, ?_, ?_⟩
  · have := hc _ _ h1; rw [addr_add] at this; simpa using this
  · have := hc _ _ h2; rw [addr_add] at this; simpa using this
/-- A predicate over states, as a function value. -/
def SaysN (gf : Nat) (lb : Array Value) (p : Nw → Bool) (l : List Nw) (r : Option Nat) (w : World) : Prop :=
  ∀ (W : World) (n : Nw), w.grownBy W r → n ∈ l → NwOk W n → Calls Tryz.prog gf (#[n.val] ++ lb) W fun e w' => e = .returned (.bool (p n)) ∧ Below W.heap.size W w'
theorem SaysN.later {gf : Nat} {lb : Array Value} {p : Nw → Bool} {l : List Nw} {r : Option Nat} {w w' : World} (h : SaysN gf lb p l r w) (hg : w.grownBy w' r) : SaysN gf lb p l r w' := fun W n hW => h W n (gb_trans hg hW)
def firstN (l : List Nw) (p : Nw → Bool) : Int := match l.findIdx? p with | some i => (i : Int) | none => -1
theorem firstN_hit {l : List Nw} {p : Nw → Bool} {k : Nat} {n : Nw} (h : l[k]? = some n) (hn : ∀ (j : Nat) (a : Nw), j < k → l[j]? = some a → p a = false) (hp : p n = true) : firstN l p = k := by
  obtain ⟨hk, he⟩ := List.getElem?_eq_some_iff.1 h
  unfold firstN
  have : l.findIdx? p = some k := by
    rw [List.findIdx?_eq_some_iff_getElem]
    exact ⟨hk, by rw [he]; exact hp, fun j hj => by simp [hn j l[j] hj (List.getElem?_eq_getElem (by omega))]⟩
  rw [this]
theorem firstN_miss {l : List Nw} {p : Nw → Bool} (hn : ∀ (j : Nat) (a : Nw), l[j]? = some a → p a = false) : firstN l p = -1 := by
  unfold firstN
  have : l.findIdx? p = none := by
    rw [List.findIdx?_eq_none_iff]
    intro x hx
    obtain ⟨k, hk, hkx⟩ := List.getElem_of_mem hx
    exact hn k x (by rw [List.getElem?_eq_getElem hk, hkx])
  rw [this]
set_option maxHeartbeats 2000000 in
theorem index91 (gf : Nat) (lb : Array Value) (eg : ∀ args w, (callFunc gf args).run Tryz.prog w = .ok (.enter gf args) w) (p : Nw → Bool) (A : Option Addr) (c nn : Nat) (l : List Nw) (w : World) (base : Nat) (hn : nn = l.length) (hl : Nows w base (.slice A nn c) l) (h40 : l.length ≤ 1000000000000) (hp : SaysN gf lb p l ((Value.slice A nn c).ownBlock) w) :
    Calls Tryz.prog 91 #[.slice A nn c, .func (.func gf) #[] lb] w fun e w' => e = .returned (.int .i64 (firstN l p)) ∧ Below w.heap.size w w' := by
  have HN0 := Lib.hid hn
  have HL := Lib.hid hl
  have HP := Lib.hid hp
  have nb : nn ≤ 1000000000000 := by omega
  clear hl hp hn h40
  go_enter Tryz.func91, Tryz.ntmps91
  go_wp2
  go_loopw [8] (fun i wr => ∃ k : Nat, k ≤ nn ∧ i = .int .i64 k ∧ (∀ (j : Nat) (a : Nw), j < k → l[j]? = some a → p a = false) ∧ Below w.heap.size w wr) (fun i _ => nn - (intOf i).toNat)
  case atStart => exact ⟨0, Nat.zero_le _, rfl, fun j a hj => by omega, Below.refl _ _⟩
  case round =>
    obtain ⟨k, hk, rfl, hno, hb⟩ := hrel
    have HN := Lib.hid hno
    have HB := Lib.hid hb
    clear hno hb
    by_cases hlt : k < nn
    · obtain ⟨n, hkn⟩ : ∃ n, l[k]? = some n := ⟨l[k]'(by rw [← HN0.out]; exact hlt), List.getElem?_eq_getElem _⟩
      have hnow := HL.out.later HB.out
      obtain ⟨g, c2, hv, c0, c1⟩ := hnow.cells hkn
      injection hv with hA hl2 hc2
      clear hl2 hc2
      subst hA
      have hcall := Lib.hid (HP.out wr n (gb_below _ HB.out) (List.mem_of_getElem? hkn) (hnow.ok n (List.mem_of_getElem? hkn)))
      have hla := Lib.hid hkn
      clear hnow hkn
      have hhit := Lib.hid (fun hq => firstN_hit (p := p) hla.out HN.out hq)
      obtain ⟨A', c', l', B', k', d'⟩ := n
      change wr.cell? _ = some (.slice A' l'.length c') at c0
      change wr.cell? _ = some (.slice B' d'.length k') at c1
      change Hid (Calls Tryz.prog gf (#[.agg #[.slice A' l'.length c', .slice B' d'.length k']] ++ lb) wr _) at hcall
      have k0 : (0 : Int) ≤ (k : Int) := by omega
      have k1 : (k : Int) < (nn : Int) := by omega
      cases hq : p ⟨A', c', l', B', k', d'⟩
      · rw [hq] at hcall
        have hq' := Lib.hid hq
        clear hq
        go_wp2_with (go_at_fn gf; refine hcall.out.mono ?_; rintro e w' ⟨rfl, hb'⟩; have HB' := Lib.hid (later HB.out hb'); clear hb')
        go_roundw
        case rel =>
          refine ⟨k + 1, by omega, by go_num, fun j x hj hx => ?_, HB'.out⟩
          rcases Nat.lt_or_ge j k with h | h
          · exact HN.out j x h hx
          · obtain rfl : j = k := by omega
            rw [hla.out] at hx; cases hx; exact hq'.out
        case measure => simp [intOf]; omega
      · rw [hq] at hcall
        have hf := Lib.hid (hhit.out hq)
        clear hq
        go_wp2_with (go_at_fn gf; refine hcall.out.mono ?_; rintro e w' ⟨rfl, hb'⟩; have HB' := Lib.hid (later HB.out hb'); clear hb')
        go_ret
        exact ⟨by rw [hf.out]; rfl, HB'.out⟩
    · have hf := Lib.hid (firstN_miss (l := l) (p := p) (fun j a ha => HN.out j a (by have := (List.getElem?_eq_some_iff.1 ha).1; have := HN0.out; omega) ha))
      go_wp2
      go_ret
      exact ⟨by rw [hf.out]; rfl, HB.out⟩
end Go.Proofs.YtpdfmfkoopdfgaaGreatDoor
end
section
namespace Go.Proofs.YtpdfmfkoopdfgaaGreatDoor
set_option maxRecDepth 100000
open Go.RowKit Aid Gr Hs LinP HeapP

def keptN (l : List Nw) (p : Nw → Bool) : List Nw := l.filter fun a => !p a
theorem keptN_next {l : List Nw} {p : Nw → Bool} {k : Nat} {n : Nw} (h : l[k]? = some n) : keptN (l.take (k + 1)) p = keptN (l.take k) p ++ (if p n then [] else [n]) := by
  obtain ⟨hk, he⟩ := List.getElem?_eq_some_iff.1 h
  unfold keptN
  rw [List.take_succ_eq_append_getElem hk, List.filter_append, he]
  congr 1
  cases hx : p n <;> simp [hx]
theorem keptN_le (l : List Nw) (p : Nw → Bool) : (keptN l p).length ≤ l.length := List.length_filter_le _ _
theorem firstN_none {l : List Nw} {p : Nw → Bool} (h : firstN l p = -1) : keptN l p = l := by
  unfold firstN at h
  cases hq : l.findIdx? p with
  | some i => rw [hq] at h; simp at h
  | none =>
    rw [List.findIdx?_eq_none_iff] at hq
    exact List.filter_eq_self.2 fun a ha => by simp [hq a ha]
theorem firstN_some {l : List Nw} {p : Nw → Bool} (h : firstN l p ≠ -1) : ∃ k : Nat, firstN l p = (k : Int) ∧ k < l.length ∧ keptN (l.take (k + 1)) p = l.take k := by
  unfold firstN at h ⊢
  cases hq : l.findIdx? p with
  | none => rw [hq] at h; exact absurd rfl h
  | some i =>
    rw [List.findIdx?_eq_some_iff_getElem] at hq
    obtain ⟨hi, hp, hn⟩ := hq
    refine ⟨i, rfl, hi, ?_⟩
    rw [keptN_next (List.getElem?_eq_getElem hi), if_pos hp, List.append_nil]
    unfold keptN
    rw [List.filter_eq_self]
    intro a ha
    obtain ⟨j, hj, e⟩ := List.getElem_of_mem ha
    rw [List.length_take] at hj
    rw [List.getElem_take] at e
    have := hn j (by omega)
    rw [e] at this
    simpa using this
/-- One store of a slice into the row: the states lie as before. -/
theorem Nows.ok_set {w : World} {g n c : Nat} {x : Nw} (hk : RowAll IsSl (.slice (some ⟨g, 0, none⟩) n c) w) (h : NwOk w x) (k : Nat) (u : Value) : NwOk (w.setCell ⟨g, k, none⟩ u) x :=
  NwOk.grow hk h (gb_set (gb_refl w _) k u)
theorem ok_sets {g n c : Nat} {x : Nw} : ∀ (vs : List Value) (o : Nat) (w : World), (∀ u ∈ vs, IsSl u) → RowAll IsSl (.slice (some ⟨g, 0, none⟩) n c) w → NwOk w x → NwOk (w.setCells g o vs) x
  | [], _, _, _, _, h => h
  | v :: vs, o, w, hv, hk, h => ok_sets vs (o + 1) _ (fun u hu => hv u (List.mem_cons_of_mem _ hu)) (hk.set _ (hv v (List.mem_cons_self ..))) (Nows.ok_set hk h o v)
theorem there_own {w : World} {base : Nat} {e : TypeId} {size g cap n : Nat} {xs : List Value} (h : w.ownsRow base e size (.slice (some ⟨g, 0, none⟩) n cap) n xs) : w.there g 0 (cap * size) := by
  rcases h.2 with ⟨h0, _⟩ | ⟨g', cap', cur, hv, hg, hh, hn2, hcap, hsz, htake⟩
  · cases h0
  · cases hv
    intro j hj
    refine ⟨?_, ?_⟩
    · unfold World.cell?; simp only []; rw [hh]; simp [hsz, hj]
    · unfold World.frozen?; simp only []; rw [hh]; simp
theorem zeros66 (k : Nat) : ∀ v ∈ (Builtin.zeroCells (Value.agg #[.slice none 0 0, .slice none 0 0]).cells k).toList, v.oneCell' = true ∧ IsSl v := fun v hv => by
  rw [Array.mem_toList_iff] at hv
  unfold Builtin.zeroCells at hv
  obtain ⟨i, _, rfl⟩ := Array.mem_map.1 hv
  have h3 : i % 2 = 0 ∨ i % 2 = 1 := by omega
  simp only [Value.cells]
  show (#[Value.slice none 0 0, Value.slice none 0 0][i % 2]!).oneCell' = true ∧ IsSl (#[Value.slice none 0 0, Value.slice none 0 0][i % 2]!)
  rcases h3 with e | e <;> rw [e] <;> exact ⟨rfl, _, _, _, rfl⟩
theorem zsize66 (k : Nat) : (Builtin.zeroCells (Value.agg #[.slice none 0 0, .slice none 0 0]).cells k).size = k * 2 := by
  unfold Builtin.zeroCells; simp [Value.cells]
theorem set_take {α : Type} (x : α) : ∀ (M : List α) (i : Nat), i < M.length → (M.set i x).take (i + 1) = M.take i ++ [x]
  | [], i, h => by simp at h
  | a :: M, 0, _ => by simp
  | a :: M, i + 1, h => by
    rw [List.set_cons_succ, List.take_succ_cons, List.take_succ_cons, set_take x M i (by simpa using h)]; rfl
theorem set_drop {α : Type} (x : α) : ∀ (M : List α) (i k : Nat), i < k → (M.set i x).drop k = M.drop k
  | [], i, k, h => by simp
  | a :: M, 0, k + 1, _ => by simp
  | a :: M, i + 1, k + 1, h => by
    rw [List.set_cons_succ, List.drop_succ_cons, List.drop_succ_cons, set_drop x M i k (by omega)]
set_option maxHeartbeats 4000000 in
theorem delete63 (gf : Nat) (lb : Array Value) (eg : ∀ args w, (callFunc gf args).run Tryz.prog w = .ok (.enter gf args) w) (p : Nw → Bool) (A : Option Addr) (c nn : Nat) (l : List Nw) (w : World) (base : Nat) (hn : nn = l.length) (hl : Nows w base (.slice A nn c) l) (h40 : l.length ≤ 1000000000000) (hp : SaysN gf lb p l ((Value.slice A nn c).ownBlock) w) :
    Calls Tryz.prog 63 #[.slice A nn c, .func (.func gf) #[] lb] w fun e w' => ∃ B d, e = .returned (.slice B (keptN l p).length d) ∧ Nows w' base (.slice B (keptN l p).length d) (keptN l p) ∧ (Value.slice B (keptN l p).length d).ownBlock = (Value.slice A nn c).ownBlock ∧ w.grownBy w' (Value.slice A nn c).ownBlock := by
  have hI := Lib.hid (index91 gf lb eg p A c nn l w base hn hl h40 hp)
  by_cases hq : firstN l p = -1
  · rw [hq] at hI
    have hk := Lib.hid (firstN_none hq)
    have HL := Lib.hid hl
    have HN := Lib.hid hn
    clear hq hl hn h40 hp
    go_enter Tryz.func63, Tryz.ntmps63
    go_wp2_with (go_at_call 91; ((with_reducible refine hI.out.mono ?_); rintro e w' ⟨rfl, hb'⟩; have HB := Lib.hid hb'; clear hb'))
    go_ret
    refine ⟨A, c, by rw [hk.out, HN.out]; rfl, ?_, ?_, gb_below _ HB.out⟩
    · rw [hk.out, ← HN.out]; exact HL.out.later HB.out
    · cases A <;> rfl
  · obtain ⟨k, hk, hkl, hk1⟩ := firstN_some hq
    rw [hk] at hI
    obtain ⟨g, c', hv, y1, y2⟩ := hl.cells (List.getElem?_eq_getElem hkl)
    clear y1 y2
    injection hv with hA' hl2 hc'
    clear hl2
    subst hA' hc'
    have hgw : g < w.heap.size := (hl.own.lt g rfl).2
    have nc : nn ≤ c := own_cap (by have := hl.own; rwa [← hn] at this)
    have HP := Lib.hid hp
    have HL := Lib.hid hl
    have HN := Lib.hid hn
    have nb : nn ≤ 1000000000000 := by omega
    have kn : k < nn := by omega
    have kz : IntKind.i64.wrap ((k : Int) + 1) = (k : Int) + 1 := by rw [IntKind.wrap_i64] <;> omega
    clear hq hl hp hn h40 hkl
    go_enter Tryz.func63, Tryz.ntmps63
    go_wp2_with (go_at_call 91; ((with_reducible refine hI.out.mono ?_); rintro e w' ⟨rfl, hb'⟩; have HB := Lib.hid hb'; clear hb'))
    go_loopw [5, 6] (fun iv jv wr => ∃ (i j : Nat) (M : List Nw), j ≤ nn ∧ iv = .int .i64 i ∧ jv = .int .i64 j ∧ i = (keptN (l.take j) p).length ∧ i < j ∧ M.length = l.length ∧ M.take i = keptN (l.take j) p ∧ M.drop j = l.drop j ∧ wr.ownsRow base 66 2 (.slice (some ⟨g, 0, none⟩) nn c) nn (nflat M) ∧ RowAll IsSl (.slice (some ⟨g, 0, none⟩) nn c) wr ∧ (∀ n ∈ l, NwOk wr n) ∧ w.grownBy wr (some g)) (fun _ j _ => nn - (intOf j).toNat)
    case atStart =>
      have h1 := HL.out.later HB.out
      refine ⟨k, k + 1, l, by omega, rfl, by go_num, ?_, by omega, rfl, ?_, rfl, ?_, h1.kind, h1.ok, gb_below _ HB.out⟩
      · rw [hk1, List.length_take]; have := HN.out; omega
      · rw [hk1]
      · have := h1.own
        rwa [← HN.out] at this
    case round =>
      obtain ⟨i, j, M, hj, rfl, rfl, hil, hij, hml, hmt, hmd, ho, hkd, hok, hgb⟩ := hrel
      have HO := Lib.hid ho
      have HKD := Lib.hid hkd
      have HOK := Lib.hid hok
      have HGB := Lib.hid hgb
      have HML := Lib.hid hml
      have HMT := Lib.hid hmt
      have HMD := Lib.hid hmd
      have IL := Lib.hid hil
      have hgr : g < wr.heap.size := Nat.lt_of_lt_of_le hgw hgb.size
      clear ho hkd hok hgb hml hmt hmd hil hI hk1 HB
      have j0 : (0 : Int) ≤ (j : Int) := by omega
      have i00 : (0 : Int) ≤ (i : Int) := by omega
      have jz : IntKind.i64.wrap ((j : Int) + 1) = (j : Int) + 1 := by rw [IntKind.wrap_i64] <;> omega
      have iz : IntKind.i64.wrap ((i : Int) + 1) = (i : Int) + 1 := by rw [IntKind.wrap_i64] <;> omega
      by_cases hlt : j < nn
      · have j1 : (j : Int) < (nn : Int) := by omega
        have i1 : (i : Int) < (nn : Int) := by omega
        obtain ⟨x, hx⟩ : ∃ x, l[j]? = some x := ⟨l[j]'(by rw [← HN.out]; exact hlt), List.getElem?_eq_getElem _⟩
        have hMx : M[j]? = some x := by
          have h1 : (M.drop j)[0]? = (l.drop j)[0]? := by rw [HMD.out]
          rw [List.getElem?_drop, List.getElem?_drop] at h1
          simpa [hx] using h1
        have hcs := World.ownsRow.cells HO.out (g := g) rfl
        obtain ⟨g1, g2⟩ := nflat_get M j x hMx
        have c0 : wr.cell? ⟨g, j * 2, none⟩ = some x.v0 := by have := hcs _ _ g1; rw [addr_add] at this; simpa using this
        have c1 : wr.cell? ⟨g, j * 2 + 1, none⟩ = some x.v1 := by have := hcs _ _ g2; rw [addr_add] at this; simpa using this
        have hNX := Lib.hid (keptN_next (p := p) hx)
        have hmem := List.mem_of_getElem? hx
        have HX := Lib.hid hx
        have HMX := Lib.hid hMx
        have HTH := Lib.hid (there_own HO.out)
        have HXO := Lib.hid (HOK.out x hmem)
        have hcall := Lib.hid fun W hW hxo => HP.out W x hW hmem hxo
        clear hcs g1 g2 hx hMx hmem
        obtain ⟨A', c', l', B', k', d'⟩ := x
        change wr.cell? _ = some (.slice A' l'.length c') at c0
        change wr.cell? _ = some (.slice B' d'.length k') at c1
        have BA : Hid (Below wr.heap.size wr (wr.alloc (.cells #[.slice A' l'.length c', .slice B' d'.length k'] 66))) := Lib.hid ((Below.refl _ _).alloc (Nat.le_refl _) _)
        have hcal : Hid (Calls Tryz.prog gf (#[.agg #[.slice A' l'.length c', .slice B' d'.length k']] ++ lb) (wr.alloc (.cells #[.slice A' l'.length c', .slice B' d'.length k'] 66)) fun e w' => e = .returned (.bool (p ⟨A', c', l', B', k', d'⟩)) ∧ Below (wr.alloc (.cells #[.slice A' l'.length c', .slice B' d'.length k'] 66)).heap.size (wr.alloc (.cells #[.slice A' l'.length c', .slice B' d'.length k'] 66)) w') := Lib.hid (hcall.out _ (gb_trans HGB.out (gb_below _ BA.out)) (HXO.out.below BA.out (Nat.le_refl _)))
        have d1 : (wr.alloc (.cells #[.slice A' l'.length c', .slice B' d'.length k'] 66)).cell? ⟨wr.heap.size, 0, none⟩ = some (.slice A' l'.length c') := by rw [World.cell?_alloc_new]; rfl
        have d2 : (wr.alloc (.cells #[.slice A' l'.length c', .slice B' d'.length k'] 66)).cell? ⟨wr.heap.size, 1, none⟩ = some (.slice B' d'.length k') := by rw [World.cell?_alloc_new]; rfl
        have hszl : wr.heap.size < (wr.alloc (.cells #[.slice A' l'.length c', .slice B' d'.length k'] 66)).heap.size := by rw [World.size_alloc]; omega
        have T : Hid (∀ w4, Below (wr.alloc (.cells #[.slice A' l'.length c', .slice B' d'.length k'] 66)).heap.size (wr.alloc (.cells #[.slice A' l'.length c', .slice B' d'.length k'] 66)) w4 → Below wr.heap.size wr w4) := Lib.hid fun w4 h => BA.out.trans (h.mono BA.out.size)
        clear hcall
        cases hq : p ⟨A', c', l', B', k', d'⟩
        · rw [hq] at hcal
          rw [hq, if_neg (by simp)] at hNX
          clear hq
          obtain ⟨y1, hy1⟩ := Option.isSome_iff_exists.1 (HTH.out (i * 2) (by omega)).1
          obtain ⟨y2, hy2⟩ := Option.isSome_iff_exists.1 (HTH.out (i * 2 + 1) (by omega)).1
          have z1 := (HTH.out (i * 2) (by omega)).2
          have z2 := (HTH.out (i * 2 + 1) (by omega)).2
          rw [Nat.zero_add] at hy1 hy2 z1 z2
          have hgf0 : ∀ w4 : World, Below wr.heap.size wr w4 → ∀ o, wr.frozen? ⟨g, o, none⟩ = false → w4.frozen? ⟨g, o, none⟩ = false := fun w4 h o hz => by
            unfold World.frozen? at hz ⊢
            simp only [] at hz ⊢
            rw [h.block g hgr]; exact hz
          have HG := Lib.hid hgf0
          clear hgf0
          go_wp2_with (go_at_fn gf; refine hcal.out.mono ?_; rintro e w4 ⟨rfl, hb'⟩; have HB' := Lib.hid (T.out _ hb'); have f1 := (hb'.cell (p := ⟨wr.heap.size, 0, none⟩) hszl).trans d1; have f2 := (hb'.cell (p := ⟨wr.heap.size, 1, none⟩) hszl).trans d2; have g1 := (HB'.out.cell (p := ⟨g, i * 2, none⟩) hgr).trans hy1; have g2 := (HB'.out.cell (p := ⟨g, i * 2 + 1, none⟩) hgr).trans hy2; have k1 := HG.out _ HB'.out _ z1; have k2 := HG.out _ HB'.out _ z2; clear hb')
          refine ⟨?_, ?measure⟩
          iterate 23 (apply Exists.intro)
          refine ⟨?rel, rfl⟩
          case rel =>
            have ho4 := own_below HO.out HB'.out
            have hk4 := row_below HKD.out (fun g' hg' => by rw [← Option.some.inj hg']; exact hgr) HB'.out
            have hil : i < M.length := by have := HML.out; have := HN.out; omega
            refine ⟨i + 1, j + 1, M.set i ⟨A', c', l', B', k', d'⟩, by omega, by go_num, by go_num, ?_, by omega, ?_, ?_, ?_, ?_, ?_, ?_, ?_⟩
            · rw [hNX.out, List.length_append, ← IL.out]; rfl
            · rw [List.length_set]; exact HML.out
            · rw [hNX.out, set_take _ _ _ hil, HMT.out]
            · rw [set_drop _ _ _ _ (by omega)]
              have h1 := congrArg (List.drop 1) HMD.out
              rwa [List.drop_drop, List.drop_drop] at h1
            · rw [nflat_set]
              exact own_set (own_set ho4 _ _) _ _
            · exact (hk4.set _ ⟨_, _, _, rfl⟩).set _ ⟨_, _, _, rfl⟩
            · intro n hn
              have h4 := (HOK.out n hn).below HB'.out (Nat.le_refl _)
              exact Nows.ok_set (hk4.set ⟨g, i * 2, none⟩ ⟨_, _, _, rfl⟩) (Nows.ok_set hk4 h4 _ _) _ _
            · exact gb_set (gb_set (gb_trans HGB.out (gb_below _ HB'.out)) _ _) _ _
          case measure => simp [intOf]; omega
        · rw [hq] at hcal
          rw [hq, if_pos rfl, List.append_nil] at hNX
          clear hq
          go_wp2_with (go_at_fn gf; refine hcal.out.mono ?_; rintro e w4 ⟨rfl, hb'⟩; have HB' := Lib.hid (T.out _ hb'); clear hb')
          refine ⟨?_, ?measure⟩
          iterate 23 (apply Exists.intro)
          refine ⟨?rel, rfl⟩
          case rel =>
            refine ⟨i, j + 1, M, by omega, rfl, by go_num, by rw [hNX.out]; exact IL.out, by omega, HML.out, by rw [hNX.out]; exact HMT.out, ?_, own_below HO.out HB'.out, row_below HKD.out (fun g' hg' => by rw [← Option.some.inj hg']; exact hgr) HB'.out, fun n hn => (HOK.out n hn).below HB'.out (Nat.le_refl _), gb_trans HGB.out (gb_below _ HB'.out)⟩
            have h1 := congrArg (List.drop 1) HMD.out
            rwa [List.drop_drop, List.drop_drop] at h1
          case measure => simp [intOf]; omega
      · obtain rfl : j = nn := by omega
        have hz := Lib.hid (zsize66 (j - i))
        have hin : i ≤ j := by omega
        have hic : ¬ (c = i) := by omega
        have hicc : i ≤ c := by omega
        have hcl : ∀ ty, (Builtin.clear_ #[63] ty #[.slice (some ⟨g, i * 2, none⟩) (j - i) (c - i)]).run Tryz.prog wr = .ok (.tuple #[]) (wr.setCells g (i * 2) (Builtin.zeroCells (Value.agg #[.slice none 0 0, .slice none 0 0]).cells (j - i)).toList) := fun ty =>
          run_clear_k wr 63 66 ty _ Tryz.underlying63 Tryz.zeroValue66 g (i * 2) (j - i) (c - i) (by omega) (there_sub (there_own HO.out) (by omega) (by rw [Array.length_toList, hz.out]; omega)) (fun v hv => (zeros66 _ v hv).1)
        have ZS : Hid (∀ v ∈ (Builtin.zeroCells (Value.agg #[.slice none 0 0, .slice none 0 0]).cells (j - i)).toList, IsSl v) := Lib.hid fun v hv => (zeros66 _ v hv).2
        generalize (Builtin.zeroCells (Value.agg #[.slice none 0 0, .slice none 0 0]).cells (j - i)).toList = zs at hcl ZS
        go_wp2
        go_ret
        have lt : l.take j = l := List.take_of_length_le (by rw [← HN.out]; exact Nat.le_refl _)
        have el : (keptN l p).length = i := by
          have := IL.out
          rw [lt] at this
          exact this.symm
        have mt : M.take i = keptN l p := by
          have := HMT.out
          rwa [lt] at this
        have ho2 := own_take HO.out hin
        rw [← nflat_take, mt] at ho2
        refine ⟨some ⟨g, 0, none⟩, c, by rw [el]; rfl, ?_, rfl, gb_sets _ _ _ HGB.out⟩
        rw [el]
        exact ⟨by rw [el]; exact own_sets _ _ _ (Nat.le_refl _) ho2, row_sets _ _ _ ZS.out (fun g' hg' => HKD.out g' hg'), fun n hn => ok_sets _ _ _ ZS.out HKD.out (HOK.out n (List.mem_filter.1 hn).1)⟩
end Go.Proofs.YtpdfmfkoopdfgaaGreatDoor
end
section
namespace Go.Proofs.YtpdfmfkoopdfgaaGreatDoor
set_option maxRecDepth 100000
open Go.RowKit Aid Gr Hs LinP HeapP

theorem nats_get {l : List Nat} {j x : Nat} (h : l[j]? = some x) : (nats l)[j]? = some (.int .i64 x) := by unfold nats; simp [h]
theorem nats_append (l k : List Nat) : nats (l ++ k) = nats l ++ nats k := by unfold nats; simp
theorem nats_set (l : List Nat) (i x : Nat) : nats (l.set i x) = (nats l).set i (.int .i64 x) := by unfold nats; rw [List.map_set]
theorem nats_take (l : List Nat) (n : Nat) : nats (l.take n) = (nats l).take n := by unfold nats; rw [List.map_take]
/-- A row of ints, the call's own. -/
abbrev Ints (w : World) (base : Nat) (v : Value) (l : List Nat) : Prop := w.ownsRow base 3 1 v l.length (nats l)
theorem ints_cells {w : World} {base : Nat} {v : Value} {l : List Nat} (h : Ints w base v l) {j x : Nat} (hj : l[j]? = some x) : ∃ g c, v = .slice (some ⟨g, 0, none⟩) l.length c ∧ w.cell? ⟨g, j, none⟩ = some (.int .i64 x) := by
  have hlt := (List.getElem?_eq_some_iff.1 hj).1
  obtain ⟨g, c, hv⟩ : ∃ g c, v = .slice (some ⟨g, 0, none⟩) l.length c := by
    rcases h.2 with ⟨_, h0⟩ | ⟨g, cap, cur, hv, _⟩
    · omega
    · exact ⟨g, cap, hv⟩
  have hc := World.ownsRow.cells h (g := g) (by rw [hv]; rfl)
  refine ⟨g, c, hv, ?_⟩
  have := hc _ _ (nats_get hj); rw [addr_add] at this; simpa using this
def SaysI (gf : Nat) (lb : Array Value) (p : Nat → Bool) (r : Option Nat) (w : World) : Prop :=
  ∀ (W : World) (n : Nat), w.grownBy W r → Calls Tryz.prog gf (#[.int .i64 n] ++ lb) W fun e w' => e = .returned (.bool (p n)) ∧ W = w'
def firstX (l : List Nat) (p : Nat → Bool) : Int := match l.findIdx? p with | some i => (i : Int) | none => -1
theorem firstX_hit {l : List Nat} {p : Nat → Bool} {k : Nat} {n : Nat} (h : l[k]? = some n) (hn : ∀ (j : Nat) (a : Nat), j < k → l[j]? = some a → p a = false) (hp : p n = true) : firstX l p = k := by
  obtain ⟨hk, he⟩ := List.getElem?_eq_some_iff.1 h
  unfold firstX
  have : l.findIdx? p = some k := by
    rw [List.findIdx?_eq_some_iff_getElem]
    exact ⟨hk, by rw [he]; exact hp, fun j hj => by simp [hn j l[j] hj (List.getElem?_eq_getElem (by omega))]⟩
  rw [this]
theorem firstX_miss {l : List Nat} {p : Nat → Bool} (hn : ∀ (j : Nat) (a : Nat), l[j]? = some a → p a = false) : firstX l p = -1 := by
  unfold firstX
  have : l.findIdx? p = none := by
    rw [List.findIdx?_eq_none_iff]
    intro x hx
    obtain ⟨k, hk, hkx⟩ := List.getElem_of_mem hx
    exact hn k x (by rw [List.getElem?_eq_getElem hk, hkx])
  rw [this]
set_option maxHeartbeats 2000000 in
theorem index99 (gf : Nat) (lb : Array Value) (eg : ∀ args w, (callFunc gf args).run Tryz.prog w = .ok (.enter gf args) w) (p : Nat → Bool) (A : Option Addr) (c nn : Nat) (l : List Nat) (w : World) (base : Nat) (hn : nn = l.length) (hl : w.ownsRow base 3 1 (.slice A nn c) l.length (nats l)) (h40 : l.length ≤ 1000000000000) (hp : SaysI gf lb p ((Value.slice A nn c).ownBlock) w) :
    Calls Tryz.prog 99 #[.slice A nn c, .func (.func gf) #[] lb] w fun e w' => e = .returned (.int .i64 (firstX l p)) ∧ w = w' := by
  have HN0 := Lib.hid hn
  have HL := Lib.hid hl
  have HP := Lib.hid hp
  have nb : nn ≤ 1000000000000 := by omega
  clear hl hp hn h40
  go_enter Tryz.func99, Tryz.ntmps99
  go_wp2
  go_loopw [8] (fun i wr => ∃ k : Nat, k ≤ nn ∧ i = .int .i64 k ∧ (∀ (j : Nat) (a : Nat), j < k → l[j]? = some a → p a = false) ∧ w = wr) (fun i _ => nn - (intOf i).toNat)
  case atStart => exact ⟨0, Nat.zero_le _, rfl, fun j a hj => by omega, rfl⟩
  case round =>
    obtain ⟨k, hk, rfl, hno, rfl⟩ := hrel
    have HN := Lib.hid hno
    clear hno
    by_cases hlt : k < nn
    · obtain ⟨n, hkn⟩ : ∃ n, l[k]? = some n := ⟨l[k]'(by rw [← HN0.out]; exact hlt), List.getElem?_eq_getElem _⟩
      obtain ⟨g, c2, hv, c0⟩ := ints_cells HL.out hkn
      injection hv with hA hl2 hc2
      clear hl2 hc2
      subst hA
      have hcall := Lib.hid (HP.out w n (gb_refl _ _))
      have hla := Lib.hid hkn
      clear hkn
      have hhit := Lib.hid (fun hq => firstX_hit (p := p) hla.out HN.out hq)
      have k0 : (0 : Int) ≤ (k : Int) := by omega
      have k1 : (k : Int) < (nn : Int) := by omega
      cases hq : p n
      · rw [hq] at hcall
        have hq' := Lib.hid hq
        clear hq
        go_wp2_with (go_at_fn gf; refine hcall.out.mono ?_; rintro e w' ⟨rfl, rfl⟩)
        go_roundw
        case rel =>
          refine ⟨k + 1, by omega, by go_num, fun j x hj hx => ?_, trivial⟩
          rcases Nat.lt_or_ge j k with h | h
          · exact HN.out j x h hx
          · obtain rfl : j = k := by omega
            rw [hla.out] at hx; cases hx; exact hq'.out
        case measure => simp [intOf]; omega
      · rw [hq] at hcall
        have hf := Lib.hid (hhit.out hq)
        clear hq
        go_wp2_with (go_at_fn gf; refine hcall.out.mono ?_; rintro e w' ⟨rfl, rfl⟩)
        go_ret
        exact ⟨by rw [hf.out]; rfl, rfl⟩
    · have hf := Lib.hid (firstX_miss (l := l) (p := p) (fun j a ha => HN.out j a (by have := (List.getElem?_eq_some_iff.1 ha).1; have := HN0.out; omega) ha))
      go_wp2
      go_ret
      exact ⟨by rw [hf.out]; rfl, rfl⟩
def keptX (l : List Nat) (p : Nat → Bool) : List Nat := l.filter fun a => !p a
theorem keptX_next {l : List Nat} {p : Nat → Bool} {k : Nat} {n : Nat} (h : l[k]? = some n) : keptX (l.take (k + 1)) p = keptX (l.take k) p ++ (if p n then [] else [n]) := by
  obtain ⟨hk, he⟩ := List.getElem?_eq_some_iff.1 h
  unfold keptX
  rw [List.take_succ_eq_append_getElem hk, List.filter_append, he]
  congr 1
  cases hx : p n <;> simp [hx]
theorem firstX_none {l : List Nat} {p : Nat → Bool} (h : firstX l p = -1) : keptX l p = l := by
  unfold firstX at h
  cases hq : l.findIdx? p with
  | some i => rw [hq] at h; simp at h
  | none =>
    rw [List.findIdx?_eq_none_iff] at hq
    exact List.filter_eq_self.2 fun a ha => by simp [hq a ha]
theorem firstX_some {l : List Nat} {p : Nat → Bool} (h : firstX l p ≠ -1) : ∃ k : Nat, firstX l p = (k : Int) ∧ k < l.length ∧ keptX (l.take (k + 1)) p = l.take k := by
  unfold firstX at h ⊢
  cases hq : l.findIdx? p with
  | none => rw [hq] at h; exact absurd rfl h
  | some i =>
    rw [List.findIdx?_eq_some_iff_getElem] at hq
    obtain ⟨hi, hp, hn⟩ := hq
    refine ⟨i, rfl, hi, ?_⟩
    rw [keptX_next (List.getElem?_eq_getElem hi), if_pos hp, List.append_nil]
    unfold keptX
    rw [List.filter_eq_self]
    intro a ha
    obtain ⟨j, hj, e⟩ := List.getElem_of_mem ha
    rw [List.length_take] at hj
    rw [List.getElem_take] at e
    have := hn j (by omega)
    rw [e] at this
    simpa using this
theorem zerosI (k : Nat) : ∀ v ∈ (Builtin.zeroCells (Value.int .i64 0).cells k).toList, v.oneCell' = true := fun v hv => by
  rw [Array.mem_toList_iff] at hv
  unfold Builtin.zeroCells at hv
  obtain ⟨i, _, rfl⟩ := Array.mem_map.1 hv
  simp only [Value.cells]
  show (#[Value.int .i64 0][i % 1]!).oneCell' = true
  rw [Nat.mod_one]; rfl
theorem zerosII (k : Nat) : ∀ v ∈ (Builtin.zeroCells (Value.int .i64 0).cells k).toList, ∃ m, v = .int .i64 m := fun v hv => by
  rw [Array.mem_toList_iff] at hv
  unfold Builtin.zeroCells at hv
  obtain ⟨i, _, rfl⟩ := Array.mem_map.1 hv
  simp only [Value.cells]
  show ∃ m, #[Value.int .i64 0][i % 1]! = .int .i64 m
  rw [Nat.mod_one]; exact ⟨0, rfl⟩
theorem zsizeI (k : Nat) : (Builtin.zeroCells (Value.int .i64 0).cells k).size = k := by
  unfold Builtin.zeroCells; simp [Value.cells]
set_option maxHeartbeats 4000000 in
theorem delete66 (gf : Nat) (lb : Array Value) (eg : ∀ args w, (callFunc gf args).run Tryz.prog w = .ok (.enter gf args) w) (p : Nat → Bool) (A : Option Addr) (c nn : Nat) (l : List Nat) (w : World) (base : Nat) (hn : nn = l.length) (hl : w.ownsRow base 3 1 (.slice A nn c) l.length (nats l)) (h40 : l.length ≤ 1000000000000) (hp : SaysI gf lb p ((Value.slice A nn c).ownBlock) w) :
    Calls Tryz.prog 66 #[.slice A nn c, .func (.func gf) #[] lb] w fun e w' => ∃ B d, e = .returned (.slice B (keptX l p).length d) ∧ w'.ownsRow base 3 1 (.slice B (keptX l p).length d) (keptX l p).length (nats (keptX l p)) ∧ (Value.slice B (keptX l p).length d).ownBlock = (Value.slice A nn c).ownBlock ∧ w.grownBy w' (Value.slice A nn c).ownBlock ∧ (∀ Pd : Value → Prop, (∀ m, Pd (.int .i64 m)) → RowAll Pd (.slice A nn c) w → RowAll Pd (.slice A nn c) w') := by
  have hI := Lib.hid (index99 gf lb eg p A c nn l w base hn hl h40 hp)
  by_cases hq : firstX l p = -1
  · rw [hq] at hI
    have hk := Lib.hid (firstX_none hq)
    have HL := Lib.hid hl
    have HN := Lib.hid hn
    clear hq hl hn h40 hp
    go_enter Tryz.func66, Tryz.ntmps66
    go_wp2_with (go_at_call 99; ((with_reducible refine hI.out.mono ?_); rintro e w' ⟨rfl, rfl⟩))
    go_ret
    refine ⟨A, c, by rw [hk.out, HN.out]; rfl, ?_, ?_, gb_refl _ _, fun _ _ h => h⟩
    · rw [hk.out, ← HN.out]; have := HL.out; rwa [← HN.out] at this
    · cases A <;> rfl
  · obtain ⟨k, hk, hkl, hk1⟩ := firstX_some hq
    rw [hk] at hI
    obtain ⟨g, c', hv, y1⟩ := ints_cells hl (List.getElem?_eq_getElem hkl)
    clear y1
    injection hv with hA' hl2 hc'
    clear hl2
    subst hA' hc'
    have hgw : g < w.heap.size := (hl.lt g rfl).2
    have nc : nn ≤ c := own_cap (by have := hl; rwa [← hn] at this)
    have HP := Lib.hid hp
    have HL := Lib.hid hl
    have HN := Lib.hid hn
    have nb : nn ≤ 1000000000000 := by omega
    have kn : k < nn := by omega
    have kz : IntKind.i64.wrap ((k : Int) + 1) = (k : Int) + 1 := by rw [IntKind.wrap_i64] <;> omega
    clear hq hl hp hn h40 hkl
    go_enter Tryz.func66, Tryz.ntmps66
    go_wp2_with (go_at_call 99; ((with_reducible refine hI.out.mono ?_); rintro e w' ⟨rfl, rfl⟩))
    go_loopw [5, 6] (fun iv jv wr => ∃ (i j : Nat) (M : List Nat), j ≤ nn ∧ iv = .int .i64 i ∧ jv = .int .i64 j ∧ i = (keptX (l.take j) p).length ∧ i < j ∧ M.length = l.length ∧ M.take i = keptX (l.take j) p ∧ M.drop j = l.drop j ∧ wr.ownsRow base 3 1 (.slice (some ⟨g, 0, none⟩) nn c) nn (nats M) ∧ w.grownBy wr (some g) ∧ (∀ Pd : Value → Prop, (∀ m, Pd (.int .i64 m)) → RowAll Pd (.slice (some ⟨g, 0, none⟩) nn c) w → RowAll Pd (.slice (some ⟨g, 0, none⟩) nn c) wr)) (fun _ j _ => nn - (intOf j).toNat)
    case atStart =>
      refine ⟨k, k + 1, l, by omega, rfl, by go_num, ?_, by omega, rfl, ?_, rfl, ?_, gb_refl _ _, fun _ _ h => h⟩
      · rw [hk1, List.length_take]; have := HN.out; omega
      · rw [hk1]
      · have := HL.out
        rwa [← HN.out] at this
    case round =>
      obtain ⟨i, j, M, hj, rfl, rfl, hil, hij, hml, hmt, hmd, ho, hgb, hpd⟩ := hrel
      have HPD := Lib.hid hpd
      have HO := Lib.hid ho
      have HGB := Lib.hid hgb
      have HML := Lib.hid hml
      have HMT := Lib.hid hmt
      have HMD := Lib.hid hmd
      have IL := Lib.hid hil
      have hgr : g < wr.heap.size := Nat.lt_of_lt_of_le hgw hgb.size
      clear ho hgb hml hmt hmd hil hI hk1 hpd
      have j0 : (0 : Int) ≤ (j : Int) := by omega
      have i00 : (0 : Int) ≤ (i : Int) := by omega
      have jz : IntKind.i64.wrap ((j : Int) + 1) = (j : Int) + 1 := by rw [IntKind.wrap_i64] <;> omega
      have iz : IntKind.i64.wrap ((i : Int) + 1) = (i : Int) + 1 := by rw [IntKind.wrap_i64] <;> omega
      by_cases hlt : j < nn
      · have j1 : (j : Int) < (nn : Int) := by omega
        have i1 : (i : Int) < (nn : Int) := by omega
        obtain ⟨x, hx⟩ : ∃ x, l[j]? = some x := ⟨l[j]'(by rw [← HN.out]; exact hlt), List.getElem?_eq_getElem _⟩
        have hMx : M[j]? = some x := by
          have h1 : (M.drop j)[0]? = (l.drop j)[0]? := by rw [HMD.out]
          rw [List.getElem?_drop, List.getElem?_drop] at h1
          simpa [hx] using h1
        have c0 : wr.cell? ⟨g, j, none⟩ = some (.int .i64 x) := by
          have := World.ownsRow.cells HO.out (g := g) rfl _ _ (nats_get hMx)
          rw [addr_add] at this; simpa using this
        have hNX := Lib.hid (keptX_next (p := p) hx)
        have HTH := Lib.hid (there_own HO.out)
        have hcal := Lib.hid (HP.out wr x HGB.out)
        clear hx hMx
        cases hq : p x
        · rw [hq] at hcal
          rw [hq, if_neg (by simp)] at hNX
          clear hq
          obtain ⟨y1, hy1⟩ := Option.isSome_iff_exists.1 (HTH.out i (by omega)).1
          have z1 := (HTH.out i (by omega)).2
          rw [Nat.zero_add] at hy1 z1
          go_wp2_with (go_at_fn gf; refine hcal.out.mono ?_; rintro e w4 ⟨rfl, rfl⟩)
          refine ⟨?_, ?measure⟩
          iterate 23 (apply Exists.intro)
          refine ⟨?rel, rfl⟩
          case rel =>
            have hil : i < M.length := by have := HML.out; have := HN.out; omega
            refine ⟨i + 1, j + 1, M.set i x, by omega, by go_num, by go_num, ?_, by omega, ?_, ?_, ?_, ?_, ?_, ?_⟩
            · rw [hNX.out, List.length_append, ← IL.out]; rfl
            · rw [List.length_set]; exact HML.out
            · rw [hNX.out, set_take _ _ _ hil, HMT.out]
            · rw [set_drop _ _ _ _ (by omega)]
              have h1 := congrArg (List.drop 1) HMD.out
              rwa [List.drop_drop, List.drop_drop] at h1
            · rw [nats_set]
              exact own_set HO.out _ _
            · exact gb_set HGB.out _ _
            · exact fun Pd hP h => (HPD.out Pd hP h).set _ (hP _)
          case measure => simp [intOf]; omega
        · rw [hq] at hcal
          rw [hq, if_pos rfl, List.append_nil] at hNX
          clear hq
          go_wp2_with (go_at_fn gf; refine hcal.out.mono ?_; rintro e w4 ⟨rfl, rfl⟩)
          refine ⟨?_, ?measure⟩
          iterate 23 (apply Exists.intro)
          refine ⟨?rel, rfl⟩
          case rel =>
            refine ⟨i, j + 1, M, by omega, rfl, by go_num, by rw [hNX.out]; exact IL.out, by omega, HML.out, by rw [hNX.out]; exact HMT.out, ?_, HO.out, HGB.out, HPD.out⟩
            have h1 := congrArg (List.drop 1) HMD.out
            rwa [List.drop_drop, List.drop_drop] at h1
          case measure => simp [intOf]; omega
      · obtain rfl : j = nn := by omega
        have hz := Lib.hid (zsizeI (j - i))
        have hin : i ≤ j := by omega
        have hic : ¬ (c = i) := by omega
        have hicc : i ≤ c := by omega
        have hcl : ∀ ty, (Builtin.clear_ #[33] ty #[.slice (some ⟨g, i, none⟩) (j - i) (c - i)]).run Tryz.prog wr = .ok (.tuple #[]) (wr.setCells g i (Builtin.zeroCells (Value.int .i64 0).cells (j - i)).toList) := fun ty =>
          run_clear_k wr 33 3 ty _ Tryz.underlying33 Tryz.zeroValue3 g i (j - i) (c - i) (by omega) (there_sub (there_own HO.out) (by omega) (by rw [Array.length_toList, hz.out]; omega)) (zerosI _)
        have ZS := Lib.hid (zerosII (j - i))
        generalize (Builtin.zeroCells (Value.int .i64 0).cells (j - i)).toList = zs at hcl ZS
        go_wp2
        go_ret
        have lt : l.take j = l := List.take_of_length_le (by rw [← HN.out]; exact Nat.le_refl _)
        have el : (keptX l p).length = i := by
          have := IL.out
          rw [lt] at this
          exact this.symm
        have mt : M.take i = keptX l p := by
          have := HMT.out
          rwa [lt] at this
        have ho2 := own_take HO.out hin
        rw [Nat.mul_one, ← nats_take, mt] at ho2
        refine ⟨some ⟨g, 0, none⟩, c, by rw [el]; rfl, ?_, rfl, gb_sets _ _ _ HGB.out, fun Pd hP h => row_sets _ _ _ (fun u hu => by obtain ⟨m, rfl⟩ := ZS.out u hu; exact hP m) (HPD.out Pd hP h)⟩
        rw [el]
        exact own_sets _ _ _ (by omega) ho2
end Go.Proofs.YtpdfmfkoopdfgaaGreatDoor
end
