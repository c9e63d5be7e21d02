/- The contracts as the laws use them. -/
import Derived.Test.YtmlcghbhkpbaeaaLaw3
import Derived.Test.YtmlcghbhkpbaeaaShown
namespace Go.Proofs.Ytmlcghbhkpbaeaa
open Go.RowKit Aid

theorem do_eq {W : World} {A : Option Addr} (c : Nat) {n : Nat} {l m : List Arc} {k : Nat} {o : Op} {a : Ans} (hn : n = l.length) (hl : Arcs W A l) (hs : Rises l) (h40 : l.length ≤ 999) (ho : o.Fine) (hG : doG l o = m) (hA : doA l o = a) (hk : m.length = k) :
    Calls Try.prog 10 #[.slice A n c, .agg #[.int .i64 o.k, .int .i64 o.u, .int .i64 o.v, .int .u64 o.w]] W fun e w' => ∃ B d C f, e = .returned (.tuple #[.slice B k d, .agg #[.int .i64 a.err, .bool a.is, .int .i64 a.n, .int .u64 a.w, .slice C a.list.length f]]) ∧ Arcs w' B m ∧ Sl w' C (a.list.map (Value.int .i64)) ∧ Below W.heap.size W w' := by
  subst hG hA hk
  exact do_any A c n l o W hn hl hs h40 ho
theorem has_eq {W : World} {A : Option Addr} (c : Nat) {n : Nat} {l : List Arc} {u v x : Int} {b : Bool} (hn : n = l.length) (hl : Arcs W A l) (hs : Rises l) (h40 : l.length ≤ 999) (hx : hasW l u v = x) (hb : hasB l u v = b) :
    Calls Try.prog 14 #[.slice A n c, .int .i64 u, .int .i64 v] W fun e w' => e = .returned (.tuple #[.int .u64 x, .bool b]) ∧ Below W.heap.size W w' := by
  subst hx hb
  exact has_any A c n l u v W hn hl hs (by omega)
theorem near_eq {W : World} {A : Option Addr} (c : Nat) {n : Nat} {l : List Arc} {u : Int} {k : Nat} (hn : n = l.length) (hl : Arcs W A l) (h40 : l.length ≤ 999) (hk : (near l u).length = k) :
    Calls Try.prog 15 #[.slice A n c, .int .i64 u] W fun e w' => ∃ B d, e = .returned (.slice B k d) ∧ Below W.heap.size W w' := by
  subst hk
  refine (near_any A c n l u W hn hl (by omega)).mono ?_
  rintro e w' ⟨B, d, rfl, _, hb⟩
  exact ⟨B, d, rfl, hb⟩
theorem sameR_eq {W : World} {A B : Option Addr} (c d : Nat) {n m : Nat} {l k : List Arc} {b : Bool} (hn : n = l.length) (hm : m = k.length) (hl : Arcs W A l) (hk : Arcs W B k) (h40 : l.length ≤ 999) (hb : sameB l k = b) :
    Calls Try.prog 11 #[.slice A n c, .slice B m d] W fun e w' => e = .returned (.bool b) ∧ Below W.heap.size W w' := by
  subst hb
  exact refSame_any A B c d n m l k W hn hm hl hk (by omega)
theorem right_eq {W : World} {A : Option Addr} (c : Nat) {n : Nat} {l : List Arc} {b : Bool} (hn : n = l.length) (hl : Arcs W A l) (h40 : l.length ≤ 999) (hb : rightB l = b) :
    Calls Try.prog 9 #[.slice A n c] W fun e w' => e = .returned (.bool b) ∧ Below W.heap.size W w' := by
  subst hb
  exact refRight_any A c n l W hn hl (by omega)
theorem in_eq {W : World} {A : Option Addr} (c : Nat) {n : Nat} {l : List Arc} {u : Int} {b : Bool} (hn : n = l.length) (hl : Arcs W A l) (hb : inB l u = b) :
    Calls Try.prog 16 #[.slice A n c, .int .i64 u] W fun e w' => e = .returned (.bool b) ∧ W = w' := by
  subst hb
  exact refIn_any A c n l u W hn hl
theorem outs_eq {W : World} {a b : Ans} {A B : Option Addr} (c d : Nat) {e : Bool} (hA : Sl W A (a.list.map (Value.int .i64))) (hB : Sl W B (b.list.map (Value.int .i64))) (h40 : a.list.length ≤ 1000) (he : outsB a b = e) :
    Calls Try.prog 12 #[.agg #[.int .i64 a.err, .bool a.is, .int .i64 a.n, .int .u64 a.w, .slice A a.list.length c], .agg #[.int .i64 b.err, .bool b.is, .int .i64 b.n, .int .u64 b.w, .slice B b.list.length d]] W fun r w' => r = .returned (.bool e) ∧ Below W.heap.size W w' := by
  subst he
  exact outs_any a b A B c d W hA hB h40
end Go.Proofs.Ytmlcghbhkpbaeaa
