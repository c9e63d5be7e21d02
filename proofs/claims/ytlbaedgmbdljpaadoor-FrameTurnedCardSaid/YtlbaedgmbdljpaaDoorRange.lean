/- A loop over an iterator whose elements bear facts about memory: what the walk of such a loop owes. The body never leaves early. -/
import Derived.RangeFuncNested
import Derived.RangeFuncBound
import Derived.RangeFuncCalls
import Derived.RangeFuncLeaves
namespace Go.Proofs.YtlbaedgmbdljpaaDoor
open Go.RowKit

/-- An invariant over memory that minds no block of the loop's own book-keeping, from block B on. -/
def Calm {σ : Type} (B : Nat) (J : σ → World → Prop) : Prop :=
  ∀ s W W' row, J s W → W.grownBy W' row → (∀ r, row = some r → B ≤ r ∧ ∃ o : Obj, W.heap[r]? = some o ∧ o.isCells = false) → J s W'
theorem Calm.put {σ : Type} {B : Nat} {J : σ → World → Prop} (h : Calm B J) {s : σ} {W : World} {l : Nat} {o : Obj} (o' : Obj) (hs : J s W) (hB : B ≤ l) (hl : W.heap[l]? = some o) (ho : o.isCells = false) : J s (W.putObj l o') :=
  h s W _ (some l) hs (grownBy_putObj' W l o') (fun r e => by cases e; exact ⟨hB, o, hl, ho⟩)

/-- How a round's body may be left: off its end alone. -/
def roundEnd {σ : Type} (B : Nat) (J : σ → World → Prop) (s' : σ) (W : World) : Exit → Act → World → Prop :=
  Exit.then (fun _ W' => KeepsFrom B W W' ∧ J s' W') (fun _ _ _ => False)

/-- One step: from state s the element vs leads to s', and what is known of it in memory. -/
theorem range_law {P : Program} {n : Nat} {g : Operand} {ps : Array Tmp} {assign body : Code} {Q : Exit → Act → World → Prop} {a : Act} {w : World} (h1 : 1 ≤ n)
    {gf : Nat} {lb : Array Value} (hg : a.eval g = .func (.func gf) #[] lb) (eg : ∀ args w, (callFunc gf args).run P w = .ok (.enter gf args) w)
    {σ : Type} (J : σ → World → Prop) (s0 : σ) (Fin : σ → Prop) (Step : σ → σ → Array Value → World → Prop)
    (hJ : Calm w.heap.size J) (hS : ∀ s s' vs, Calm w.heap.size (fun (_ : Unit) W => Step s s' vs W)) (hps : ∀ s s' vs W, Step s s' vs W → vs.size = ps.size) (h0 : J s0 w)
    (hiter : ∀ (l : Nat) (J' : σ → World → Prop) (W : World), (∀ s W, J' s W → J s W) → (∀ s W W', J' s W → W.grownBy W' none → J' s W') →
      (∀ s s' vs W1, J' s W1 → Step s s' vs W1 → YieldAt Fence.wide (n - 1 - 1) P l vs W1 fun e W' => e = .returned (.bool true) ∧ J' s' W') → J' s0 W →
      CallsIn Fence.wide (n - 1) P gf (#[.func (.yield l) #[] #[]] ++ lb) W fun e W' => (∃ v, e = .returned v) ∧ ∃ s, Fin s ∧ J' s W')
    (a₁ : Array Value → Act)
    (hassign : ∀ (l : Nat) (s s' : σ) (vs : Array Value) (W : World) (K : Act → World → Prop), Step s s' vs W → K (a₁ vs) W →
      assign.wpIn (Fence.wide.inRound l) (n - 1 - 1) P (Exit.then K (fun _ _ _ => False)) { tmps := (ps.zip vs).foldl (fun t (p, v) => t.setIfInBounds p v) a.tmps, defers := [] } W)
    (hbody : ∀ (l : Nat) (s s' : σ) (vs : Array Value) (W : World), J s W → Step s s' vs W → body.wpIn (Fence.wide.inRound l) (n - 1 - 1) P (roundEnd w.heap.size J s' W) (a₁ vs) W)
    (hdone : ∀ (D : Nat) (s : σ) (W : World), w.heap.size ≤ D → Fin s → J s W → W.heap[D]? = some (.deferred (some [])) → Q .normal { a with defers := { target := .collected D, args := #[] } :: a.defers } W) :
    (Code.rangeFunc g ps assign body).wpIn Fence.wide n P Q a w := by
  apply wpIn_rangeFunc
  intro fn _
  -- the record, by its state; the two blocks that the loop lays
  let rec_ : LoopState → Loop := fun st => { state := st, pending := none, fn, tmps := a.tmps, params := ps, assign, body, defers := w.heap.size }
  let W1 : World := (w.alloc (.deferred (some []))).alloc (.loop (rec_ .ready))
  have hL1 : W1.heap[w.heap.size + 1]? = some (.loop (rec_ .ready)) := by
    have := World.alloc_heap_new (w.alloc (.deferred (some []))) (.loop (rec_ .ready))
    rwa [World.size_alloc] at this
  have hD1 : W1.heap[w.heap.size]? = some (.deferred (some [])) :=
    (Below.heap_alloc _ _ _ (by simp)).trans (World.alloc_heap_new w _)
  have hI1 : J s0 W1 := hJ s0 _ _ none (hJ s0 _ _ none h0 (World.grownBy_alloc w _ none) (fun r e => by cases e)) (World.grownBy_alloc _ _ none) (fun r e => by cases e)
  refine ⟨w.heap.size + 1, [{ target := .collected w.heap.size, args := #[] }], W1, { target := .fn (.func gf) lb, args := #[.func (.yield (w.heap.size + 1)) #[] #[]] }, W1, gf,
    #[.func (.yield (w.heap.size + 1)) #[] #[]] ++ lb, W1, run_enterLoop_outer _ _ _ _ _, ?_, fun _ _ => trivial, by simp [invoke, go_sem, eg], fun _ => h1, ?_⟩
  · simp only [resolve, hg]
    simp [go_sem]
  refine (hiter (w.heap.size + 1) (fun s W => J s W ∧ W.heap[w.heap.size + 1]? = some (.loop (rec_ .ready)) ∧ W.heap[w.heap.size]? = some (.deferred (some []))) W1 (fun s W h => h.1) ?_ ?_ ⟨hI1, hL1, hD1⟩).mono ?_
  · rintro s W W' ⟨hj, hl, hd⟩ hgr
    exact ⟨hJ s W W' none hj hgr (fun r e => by cases e), (hgr.block _ (Array.getElem?_eq_some_iff.1 hl).1 (by simp)).trans hl, (hgr.block _ (Array.getElem?_eq_some_iff.1 hd).1 (by simp)).trans hd⟩
  · -- one round
    rintro s s' vs W ⟨hj, hl, hd⟩ hst
    have hlt := (Array.getElem?_eq_some_iff.1 hl).1
    refine ⟨fn, _, assign, body, run_yield (P := P) (args := vs) hl (hps s s' vs W hst), roundIn_of_wpIn trivial (hassign _ s s' vs W _ hst ⟨_, run_beginRound hl rfl, ?_⟩)⟩
    have hl2 : (W.putObj (w.heap.size + 1) (.loop (rec_ .busy))).heap[w.heap.size + 1]? = some (.loop (rec_ .busy)) := World.putObj_heap_same hlt
    have hd2 : (W.putObj (w.heap.size + 1) (.loop (rec_ .busy))).heap[w.heap.size]? = some (.deferred (some [])) := (World.putObj_heap_other (by omega)).trans hd
    have hst2 : Step s s' vs (W.putObj (w.heap.size + 1) (.loop (rec_ .busy))) := (hS s s' vs).put (s := ()) _ hst (by omega) hl rfl
    refine wpIn_mono (hbody _ s s' vs _ (hJ.put _ hj (by omega) hl rfl) hst2) ?_
    rintro e a3 W3 hp
    cases e with
    | normal =>
      obtain ⟨hk, hj3⟩ := hp
      have hl3 := hk.same _ _ (by omega) hl2 rfl
      have hd3 := hk.same _ _ (Nat.le_refl _) hd2 rfl
      exact ⟨_, _, run_endRound (P := P) none hl3, rfl, hJ.put _ hj3 (by omega) hl3 rfl, World.putObj_heap_same (Array.getElem?_eq_some_iff.1 hl3).1, (World.putObj_heap_other (by omega)).trans hd3⟩
    | ret => exact hp.elim
    | exit id => exact hp.elim
    | goto t => exact hp.elim
    | panic ch => exact hp.elim
    | outgrown => exact hp.elim
  · -- behind the iterator
    rintro e W2 ⟨⟨v, rfl⟩, s, hfin, hj, hl, hd⟩
    exact ⟨none, _, run_endLoop (P := P) hl (by simp [rec_]), hdone _ s _ (Nat.le_refl _) hfin (hJ.put _ hj (by omega) hl rfl) ((World.putObj_heap_other (by omega)).trans hd)⟩
end Go.Proofs.YtlbaedgmbdljpaaDoor
