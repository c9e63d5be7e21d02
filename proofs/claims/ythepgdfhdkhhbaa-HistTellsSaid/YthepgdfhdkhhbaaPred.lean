/- Functions handed a predicate: slices.IndexFunc, slices.ContainsFunc. -/
import Derived.Test.YthepgdfhdkhhbaaSmall
import Derived.Shelf.Abstract
namespace Go.Proofs.Ythepgdfhdkhhbaa
open Go.RowKit Aid

/-- A predicate over rows, as a function value: what it says in each later world. -/
def Says (g : Nat) (lb : Array Value) (p : Cl → Bool) (l : List Cl) (w : World) : Prop :=
  ∀ (W : World) (a : Cl), a ∈ l → Below w.heap.size w W → Calls Try.prog g (#[a.val] ++ lb) W fun e w' => e = .returned (.bool (p a)) ∧ Below W.heap.size W w'
theorem later {w w1 w2 : World} (h1 : Below w.heap.size w w1) (h2 : Below w1.heap.size w1 w2) : Below w.heap.size w w2 := h1.trans (h2.mono h1.size)
theorem Says.later {g : Nat} {lb : Array Value} {p : Cl → Bool} {l : List Cl} {w w' : World} (h : Says g lb p l w) (hb : Below w.heap.size w w') : Says g lb p l w' := fun W a ha hW => h W a ha (hb.trans (hW.mono hb.size))
/-- The first place at which p holds; -1: nowhere. -/
def firstI (l : List Cl) (p : Cl → Bool) : Int := match l.findIdx? p with | some i => (i : Int) | none => -1
theorem findIdx_hit {l : List Cl} {p : Cl → Bool} {k : Nat} (h : k < l.length) (hn : ∀ (j : Nat) (a : Cl), j < k → l[j]? = some a → p a = false) (hp : p l[k] = true) : firstI l p = k := by
  unfold firstI
  have : l.findIdx? p = some k := by
    rw [List.findIdx?_eq_some_iff_getElem]
    exact ⟨h, hp, fun j hj => by simp [hn j l[j] hj (List.getElem?_eq_getElem (by omega))]⟩
  rw [this]
theorem findIdx_miss {l : List Cl} {p : Cl → Bool} (hn : ∀ (j : Nat) (a : Cl), l[j]? = some a → p a = false) : firstI l p = -1 := by
  unfold firstI
  have : l.findIdx? p = none := by
    rw [List.findIdx?_eq_none_iff]
    intro x hx
    obtain ⟨k, hk, hkx⟩ := List.getElem_of_mem hx
    exact hn k x (by rw [List.getElem?_eq_getElem hk, hkx])
  rw [this]
set_option maxHeartbeats 2000000 in
theorem index_any (g : Nat) (lb : Array Value) (eg : ∀ args w, (callFunc g args).run Try.prog w = .ok (.enter g args) w) (p : Cl → Bool) (A : Option Addr) (c n : Nat) (l : List Cl) (w : World) (hn : n = l.length) (hl : Cls w A l) (h40 : l.length ≤ 1000) (hp : Says g lb p l w) :
    Calls Try.prog 38 #[.slice A n c, .func (.func g) #[] lb] w fun e w' => e = .returned (.int .i64 (firstI l p)) ∧ Below w.heap.size w w' := by
  subst hn
  have HL := Lib.hid hl
  have HP := Lib.hid hp
  clear hl hp
  go_enter Try.func38, Try.ntmps38
  go_wp2
  go_loopw [8] (fun i wr => ∃ k : Nat, k ≤ l.length ∧ i = .int .i64 k ∧ (∀ (j : Nat) (a : Cl), j < k → l[j]? = some a → p a = false) ∧ Below w.heap.size w wr) (fun i _ => l.length - (intOf i).toNat)
  case atStart => exact ⟨0, Nat.zero_le _, rfl, fun j a hj => by omega, Below.refl _ _⟩
  case round =>
    obtain ⟨k, hk, rfl, hno, hb⟩ := hrel
    have HN := Lib.hid hno
    have HB := Lib.hid hb
    clear hno hb
    by_cases hlt : k < l.length
    · obtain ⟨b, off, hA, hat⟩ := (HL.out.below HB.out (Nat.le_refl _)).get (List.getElem?_eq_getElem hlt)
      obtain ⟨c0, c1, c2, c3, c4, c5, c6, c7, c8, c9, c10, c11, c12⟩ := hat
      subst hA
      have hla := Lib.hid (List.getElem?_eq_getElem hlt)
      have hcall := Lib.hid (HP.out wr l[k] (List.getElem_mem hlt) HB.out)
      have hhit := Lib.hid (findIdx_hit (p := p) hlt HN.out)
      generalize l[k] = a at c0 c1 c2 c3 c4 c5 c6 c7 c8 c9 c10 c11 c12 hla hcall hhit
      unfold Cl.val at hcall
      cases hq : p a
      · rw [hq] at hcall
        have hq' := Lib.hid hq
        clear hq
        go_wp2_with (go_at_fn g; refine hcall.out.mono ?_; rintro e w' ⟨rfl, hb'⟩; have HB' := Lib.hid (later HB.out hb'); clear hb')
        go_roundw
        case rel =>
          refine ⟨k + 1, by omega, by go_num, fun j x hj hx => ?_, HB'.out⟩
          rcases Nat.lt_or_ge j k with h | h
          · exact HN.out j x h hx
          · obtain rfl : j = k := by omega
            rw [hla.out] at hx; cases hx; exact hq'.out
        case measure => simp [intOf]; omega
      · rw [hq] at hcall
        have hf := Lib.hid (hhit.out hq)
        clear hq
        go_wp2_with (go_at_fn g; refine hcall.out.mono ?_; rintro e w' ⟨rfl, hb'⟩; have HB' := Lib.hid (later HB.out hb'); clear hb')
        go_ret
        exact ⟨by rw [hf.out]; rfl, HB'.out⟩
    · have hf := Lib.hid (findIdx_miss (l := l) (p := p) (fun j a ha => HN.out j a (by have := (List.getElem?_eq_some_iff.1 ha).1; omega) ha))
      go_wp2
      go_ret
      exact ⟨by rw [hf.out]; rfl, HB.out⟩
theorem first_any (l : List Cl) (p : Cl → Bool) : decide (0 ≤ firstI l p) = l.any p := by
  unfold firstI
  cases h : l.findIdx? p with
  | some i =>
    rw [List.findIdx?_eq_some_iff_getElem] at h
    obtain ⟨hi, hp, _⟩ := h
    have : l.any p = true := List.any_eq_true.2 ⟨l[i], List.getElem_mem hi, hp⟩
    rw [this]; simp
  | none =>
    rw [List.findIdx?_eq_none_iff] at h
    have : l.any p = false := List.any_eq_false.2 (fun x hx => by simp [h x hx])
    rw [this]; rfl
theorem contains_any (g : Nat) (lb : Array Value) (eg : ∀ args w, (callFunc g args).run Try.prog w = .ok (.enter g args) w) (p : Cl → Bool) (A : Option Addr) (c n : Nat) (l : List Cl) (w : World) (hn : n = l.length) (hl : Cls w A l) (h40 : l.length ≤ 1000) (hp : Says g lb p l w) :
    Calls Try.prog 27 #[.slice A n c, .func (.func g) #[] lb] w fun e w' => e = .returned (.bool (l.any p)) ∧ Below w.heap.size w w' := by
  have HI := Lib.hid (index_any g lb eg p A c n l w hn hl h40 hp)
  have HF := Lib.hid (first_any l p)
  clear hn hl h40 hp
  go_enter Try.func27, Try.ntmps27
  go_wp2_with (go_at_call 38; ((with_reducible refine HI.out.mono ?_); rintro e w' ⟨rfl, hb⟩; have HB := Lib.hid hb; clear hb))
  go_ret
  exact ⟨congrArg (fun b => Ending.returned (Value.bool b)) HF.out, HB.out⟩
/-- A function value's call goes to the function. -/
theorem callIn {P : Program} {f : FuncId} {fn : Func} {c : Code} (hf : P.funcs[f]? = some fn) (hname : (fn.name == "runtime.NumGoroutine") = false) (hb : fn.body = some c) (args : Array Value) (w : World) :
    (callFunc f args).run P w = .ok (.enter f args) w := by
  have h1 : fn.name ≠ "runtime.NumGoroutine" := by simpa using hname
  simp [callFunc, hf, h1, hb]
theorem call28 : ∀ args w, (callFunc 28 args).run Try.prog w = .ok (.enter 28 args) w := fun args w => callIn Try.func28 (by kernel_rfl) rfl args w
theorem call33 : ∀ args w, (callFunc 33 args).run Try.prog w = .ok (.enter 33 args) w := fun args w => callIn Try.func33 (by kernel_rfl) rfl args w
/-- hist.Right's function. -/
theorem right1_any (a b : Cl) (p : Nat) (w : World) (hb : At w p 0 b) : Calls Try.prog 28 #[a.val, .pointer (some ⟨p, 0, none⟩)] w fun e w' => e = .returned (.bool (!fitsB a b)) ∧ Below w.heap.size w w' := by
  have HA := Lib.hid ((Below.refl w.heap.size w).alloc (Nat.le_refl _) (bx a))
  obtain ⟨c0, c1, c2, c3, c4, c5, c6, c7, c8, c9, c10, c11, c12⟩ := hb.below HA.out (Nat.le_refl _)
  have HF := Lib.hid (fits_any a b (w.alloc (bx a)))
  unfold Cl.val bx at HF
  unfold Cl.val
  unfold bx at c0 c1 c2 c3 c4 c5 c6 c7 c8 c9 c10 c11 c12
  clear hb
  go_enter Try.func28, Try.ntmps28
  go_wp2_with (go_at_call 29; ((with_reducible refine HF.out.mono ?_); rintro e w' ⟨rfl, hb⟩; have HB := Lib.hid (HA.out.trans (hb.mono HA.out.size)); clear hb))
  go_ret
  exact ⟨rfl, HB.out⟩
theorem says_fits {b : Cl} {p : Nat} {w : World} (h : At w p 0 b) (l : List Cl) : Says 28 #[.pointer (some ⟨p, 0, none⟩)] (fun a => !fitsB a b) l w := fun W a _ hW => right1_any a b p W (h.below hW (Nat.le_refl _))
end Go.Proofs.Ythepgdfhdkhhbaa
