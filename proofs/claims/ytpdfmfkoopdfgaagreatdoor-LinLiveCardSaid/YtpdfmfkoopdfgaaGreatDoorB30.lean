/- HPred. -/
import Derived.Test.YtpdfmfkoopdfgaaGreatDoorB10
import Derived.Shelf.Abstract
set_option linter.unusedVariables false
set_option linter.unusedSimpArgs false
namespace Go.Proofs.YtpdfmfkoopdfgaaGreatDoor.Hs
set_option maxRecDepth 100000
open Go.RowKit Aid

/-- A predicate over rows, as a function value: what it says in each later world. -/
def Says (g : Nat) (lb : Array Value) (p : Cl → Bool) (l : List Cl) (w : World) : Prop :=
  ∀ (W : World) (a : Cl), a ∈ l → Below w.heap.size w W → Calls Tryz.prog g (#[a.val] ++ lb) W fun e w' => e = .returned (.bool (p a)) ∧ Below W.heap.size W w'
theorem later {w w1 w2 : World} (h1 : Below w.heap.size w w1) (h2 : Below w1.heap.size w1 w2) : Below w.heap.size w w2 := h1.trans (h2.mono h1.size)
theorem Says.later {g : Nat} {lb : Array Value} {p : Cl → Bool} {l : List Cl} {w w' : World} (h : Says g lb p l w) (hb : Below w.heap.size w w') : Says g lb p l w' := fun W a ha hW => h W a ha (hb.trans (hW.mono hb.size))
/-- The first place at which p holds; -1: nowhere. -/
def firstI (l : List Cl) (p : Cl → Bool) : Int := match l.findIdx? p with | some i => (i : Int) | none => -1
theorem findIdx_hit {l : List Cl} {p : Cl → Bool} {k : Nat} (h : k < l.length) (hn : ∀ (j : Nat) (a : Cl), j < k → l[j]? = some a → p a = false) (hp : p l[k] = true) : firstI l p = k := by
  unfold firstI
  have : l.findIdx? p = some k := by
    rw [List.findIdx?_eq_some_iff_getElem]
    exact ⟨h, hp, fun j hj => by simp [hn j l[j] hj (List.getElem?_eq_getElem (by omega))]⟩
  rw [this]
theorem findIdx_miss {l : List Cl} {p : Cl → Bool} (hn : ∀ (j : Nat) (a : Cl), l[j]? = some a → p a = false) : firstI l p = -1 := by
  unfold firstI
  have : l.findIdx? p = none := by
    rw [List.findIdx?_eq_none_iff]
    intro x hx
    obtain ⟨k, hk, hkx⟩ := List.getElem_of_mem hx
    exact hn k x (by rw [List.getElem?_eq_getElem hk, hkx])
  rw [this]
set_option maxHeartbeats 2000000 in
theorem index_any (g : Nat) (lb : Array Value) (eg : ∀ args w, (callFunc g args).run Tryz.prog w = .ok (.enter g args) w) (p : Cl → Bool) (A : Option Addr) (c n : Nat) (l : List Cl) (w : World) (hn : n = l.length) (hl : Cls w A l) (h40 : l.length ≤ 1000) (hp : Says g lb p l w) :
    Calls Tryz.prog 84 #[.slice A n c, .func (.func g) #[] lb] w fun e w' => e = .returned (.int .i64 (firstI l p)) ∧ Below w.heap.size w w' := by
  subst hn
  have HL := Lib.hid hl
  have HP := Lib.hid hp
  clear hl hp
  go_enter Tryz.func84, Tryz.ntmps84
  go_wp2
  go_loopw [8] (fun i wr => ∃ k : Nat, k ≤ l.length ∧ i = .int .i64 k ∧ (∀ (j : Nat) (a : Cl), j < k → l[j]? = some a → p a = false) ∧ Below w.heap.size w wr) (fun i _ => l.length - (intOf i).toNat)
  case atStart => exact ⟨0, Nat.zero_le _, rfl, fun j a hj => by omega, Below.refl _ _⟩
  case round =>
    obtain ⟨k, hk, rfl, hno, hb⟩ := hrel
    have HN := Lib.hid hno
    have HB := Lib.hid hb
    clear hno hb
    by_cases hlt : k < l.length
    · obtain ⟨b, off, hA, hat⟩ := (HL.out.below HB.out (Nat.le_refl _)).get (List.getElem?_eq_getElem hlt)
      obtain ⟨c0, c1, c2, c3, c4, c5, c6, c7, c8, c9, c10, c11, c12⟩ := hat
      subst hA
      have hla := Lib.hid (List.getElem?_eq_getElem hlt)
      have hcall := Lib.hid (HP.out wr l[k] (List.getElem_mem hlt) HB.out)
      have hhit := Lib.hid (findIdx_hit (p := p) hlt HN.out)
      generalize l[k] = a at c0 c1 c2 c3 c4 c5 c6 c7 c8 c9 c10 c11 c12 hla hcall hhit
      unfold Cl.val at hcall
      cases hq : p a
      · rw [hq] at hcall
        have hq' := Lib.hid hq
        clear hq
        go_wp2_with (go_at_fn g; refine hcall.out.mono ?_; rintro e w' ⟨rfl, hb'⟩; have HB' := Lib.hid (later HB.out hb'); clear hb')
        go_roundw
        case rel =>
          refine ⟨k + 1, by omega, by go_num, fun j x hj hx => ?_, HB'.out⟩
          rcases Nat.lt_or_ge j k with h | h
          · exact HN.out j x h hx
          · obtain rfl : j = k := by omega
            rw [hla.out] at hx; cases hx; exact hq'.out
        case measure => simp [intOf]; omega
      · rw [hq] at hcall
        have hf := Lib.hid (hhit.out hq)
        clear hq
        go_wp2_with (go_at_fn g; refine hcall.out.mono ?_; rintro e w' ⟨rfl, hb'⟩; have HB' := Lib.hid (later HB.out hb'); clear hb')
        go_ret
        exact ⟨by rw [hf.out]; rfl, HB'.out⟩
    · have hf := Lib.hid (findIdx_miss (l := l) (p := p) (fun j a ha => HN.out j a (by have := (List.getElem?_eq_some_iff.1 ha).1; omega) ha))
      go_wp2
      go_ret
      exact ⟨by rw [hf.out]; rfl, HB.out⟩
theorem first_any (l : List Cl) (p : Cl → Bool) : decide (0 ≤ firstI l p) = l.any p := by
  unfold firstI
  cases h : l.findIdx? p with
  | some i =>
    rw [List.findIdx?_eq_some_iff_getElem] at h
    obtain ⟨hi, hp, _⟩ := h
    have : l.any p = true := List.any_eq_true.2 ⟨l[i], List.getElem_mem hi, hp⟩
    rw [this]; simp
  | none =>
    rw [List.findIdx?_eq_none_iff] at h
    have : l.any p = false := List.any_eq_false.2 (fun x hx => by simp [h x hx])
    rw [this]; rfl
theorem contains_any (g : Nat) (lb : Array Value) (eg : ∀ args w, (callFunc g args).run Tryz.prog w = .ok (.enter g args) w) (p : Cl → Bool) (A : Option Addr) (c n : Nat) (l : List Cl) (w : World) (hn : n = l.length) (hl : Cls w A l) (h40 : l.length ≤ 1000) (hp : Says g lb p l w) :
    Calls Tryz.prog 54 #[.slice A n c, .func (.func g) #[] lb] w fun e w' => e = .returned (.bool (l.any p)) ∧ Below w.heap.size w w' := by
  have HI := Lib.hid (index_any g lb eg p A c n l w hn hl h40 hp)
  have HF := Lib.hid (first_any l p)
  clear hn hl h40 hp
  go_enter Tryz.func54, Tryz.ntmps54
  go_wp2_with (go_at_call 84; ((with_reducible refine HI.out.mono ?_); rintro e w' ⟨rfl, hb⟩; have HB := Lib.hid hb; clear hb))
  go_ret
  exact ⟨congrArg (fun b => Ending.returned (Value.bool b)) HF.out, HB.out⟩
/-- A function value's call goes to the function. -/
theorem callIn {P : Program} {f : FuncId} {fn : Func} {c : Code} (hf : P.funcs[f]? = some fn) (hname : (fn.name == "runtime.NumGoroutine") = false) (hb : fn.body = some c) (args : Array Value) (w : World) :
    (callFunc f args).run P w = .ok (.enter f args) w := by
  have h1 : fn.name ≠ "runtime.NumGoroutine" := by simpa using hname
  simp [callFunc, hf, h1, hb]
theorem call33 : ∀ args w, (callFunc 55 args).run Tryz.prog w = .ok (.enter 55 args) w := fun args w => callIn Tryz.func55 (by kernel_rfl) rfl args w
end Go.Proofs.YtpdfmfkoopdfgaaGreatDoor.Hs
