/- GPred. -/
import Derived.Test.YtpdfmfkoopdfgaaGreatDoorB07
import Derived.Shelf.Abstract
set_option linter.unusedVariables false
set_option linter.unusedSimpArgs false
namespace Go.Proofs.YtpdfmfkoopdfgaaGreatDoor.Gr
set_option maxRecDepth 100000
open Go.RowKit Aid

/-- A predicate over rows, as a function value: what it says in each later world. -/
def Says (g : Nat) (lb : Array Value) (p : Arc → Bool) (w : World) : Prop :=
  ∀ (W : World) (a : Arc), Below w.heap.size w W → Calls Tryz.prog g (#[a.val] ++ lb) W fun e w' => e = .returned (.bool (p a)) ∧ Below W.heap.size W w'
theorem later {w w1 w2 : World} (h1 : Below w.heap.size w w1) (h2 : Below w1.heap.size w1 w2) : Below w.heap.size w w2 := h1.trans (h2.mono h1.size)
theorem Says.later {g : Nat} {lb : Array Value} {p : Arc → Bool} {w w' : World} (h : Says g lb p w) (hb : Below w.heap.size w w') : Says g lb p w' := fun W a hW => h W a (hb.trans (hW.mono hb.size))
/-- The first place at which p holds; -1: nowhere. -/
def firstI (l : List Arc) (p : Arc → Bool) : Int := match l.findIdx? p with | some i => (i : Int) | none => -1
theorem findIdx_hit {l : List Arc} {p : Arc → Bool} {k : Nat} (h : k < l.length) (hn : ∀ (j : Nat) (a : Arc), j < k → l[j]? = some a → p a = false) (hp : p l[k] = true) : firstI l p = k := by
  unfold firstI
  have : l.findIdx? p = some k := by
    rw [List.findIdx?_eq_some_iff_getElem]
    exact ⟨h, hp, fun j hj => by simp [hn j l[j] hj (List.getElem?_eq_getElem (by omega))]⟩
  rw [this]
theorem findIdx_miss {l : List Arc} {p : Arc → Bool} (hn : ∀ (j : Nat) (a : Arc), l[j]? = some a → p a = false) : firstI l p = -1 := by
  unfold firstI
  have : l.findIdx? p = none := by
    rw [List.findIdx?_eq_none_iff]
    intro x hx
    obtain ⟨k, hk, hkx⟩ := List.getElem_of_mem hx
    exact hn k x (by rw [List.getElem?_eq_getElem hk, hkx])
  rw [this]
set_option maxHeartbeats 2000000 in
theorem index_any (g : Nat) (lb : Array Value) (eg : ∀ args w, (callFunc g args).run Tryz.prog w = .ok (.enter g args) w) (p : Arc → Bool) (A : Option Addr) (c n : Nat) (l : List Arc) (w : World) (hn : n = l.length) (hl : Arcs w A l) (h40 : l.length ≤ 1000) (hp : Says g lb p w) :
    Calls Tryz.prog 155 #[.slice A n c, .func (.func g) #[] lb] w fun e w' => e = .returned (.int .i64 (firstI l p)) ∧ Below w.heap.size w w' := by
  subst hn
  have HL := Lib.hid hl
  have HP := Lib.hid hp
  clear hl hp
  go_enter Tryz.func155, Tryz.ntmps155
  go_wp2
  go_loopw [8] (fun i wr => ∃ k : Nat, k ≤ l.length ∧ i = .int .i64 k ∧ (∀ (j : Nat) (a : Arc), j < k → l[j]? = some a → p a = false) ∧ Below w.heap.size w wr) (fun i _ => l.length - (intOf i).toNat)
  case atStart => exact ⟨0, Nat.zero_le _, rfl, fun j a hj => by omega, Below.refl _ _⟩
  case round =>
    obtain ⟨k, hk, rfl, hno, hb⟩ := hrel
    have HN := Lib.hid hno
    have HB := Lib.hid hb
    clear hno hb
    by_cases hlt : k < l.length
    · obtain ⟨b, off, hA, hcs⟩ := (HL.out.below HB.out (Nat.le_refl _)).2.2 (by omega)
      obtain ⟨c1, c2, c3⟩ := hcs k l[k] (List.getElem?_eq_getElem hlt)
      clear hcs
      subst hA
      have hla := Lib.hid (List.getElem?_eq_getElem hlt)
      have hcall := Lib.hid (HP.out wr l[k] HB.out)
      have hhit := Lib.hid (findIdx_hit (p := p) hlt HN.out)
      generalize l[k] = a at c1 c2 c3 hla hcall hhit
      unfold Arc.val at hcall
      cases hq : p a
      · rw [hq] at hcall
        have hq' := Lib.hid hq
        clear hq
        go_wp2_with (go_at_fn g; refine hcall.out.mono ?_; rintro e w' ⟨rfl, hb'⟩; have HB' := Lib.hid (later HB.out hb'); clear hb')
        go_roundw
        case rel =>
          refine ⟨k + 1, by omega, by go_num, fun j x hj hx => ?_, HB'.out⟩
          rcases Nat.lt_or_ge j k with h | h
          · exact HN.out j x h hx
          · obtain rfl : j = k := by omega
            rw [hla.out] at hx; cases hx; exact hq'.out
        case measure => simp [intOf]; omega
      · rw [hq] at hcall
        have hf := Lib.hid (hhit.out hq)
        clear hq
        go_wp2_with (go_at_fn g; refine hcall.out.mono ?_; rintro e w' ⟨rfl, hb'⟩; have HB' := Lib.hid (later HB.out hb'); clear hb')
        go_ret
        exact ⟨by rw [hf.out]; rfl, HB'.out⟩
    · have hf := Lib.hid (findIdx_miss (l := l) (p := p) (fun j a ha => HN.out j a (by have := (List.getElem?_eq_some_iff.1 ha).1; omega) ha))
      go_wp2
      go_ret
      exact ⟨by rw [hf.out]; rfl, HB.out⟩
end Go.Proofs.YtpdfmfkoopdfgaaGreatDoor.Gr
