/- LHeap2, LHeap3, LHeap4. -/
import Derived.Test.YtpdfmfkoopdfgaaGreatDoorB23
import Derived.Stop.NoCallOwed
set_option linter.unusedVariables false
set_option linter.unusedSimpArgs false
section
namespace Go.Proofs.YtpdfmfkoopdfgaaGreatDoor
set_option maxRecDepth 100000
open Go.RowKit Aid Gr Hs LinP HeapP

theorem meth_val {P : Program} (k t e : Nat) (a : Addr) (name : String) (i : TypeInfo) (m : Method) (f : FuncId) (v : Value) (W : World) (hi : P.info? t = some i) (hf : i.methods.find? (·.name == name) = some m) (hp : m.path = #[]) (hm : m.func = some (f, false)) (hu : P.underlying t = some (.pointer e)) (he : (isAgg e).run P W = .ok false W) (hc : W.cell? a = some v) : (method (k+1) t (.pointer (some a)) name).run P W = .ok (f, v) W := by
  have h1 := Go.Extern.FmtCalls.run_typeInfo_some (P := P) (w := W) hi
  have h2 := run_underlying (P := P) hu W
  have h3 : (Builtin.ssaWrapNilChk_ #[t] t #[.pointer (some a), strVal "", strVal ((name.splitOn ".").getLastD name)]).run P W = .ok (.pointer (some a)) W := rfl
  unfold method
  simp only [Sem.run_bind, h1, Result.andThen_ok, hf, hp, hm, follow, Sem.run_pure, receiverAt, h2, Place.get, h3, asAddr, loadVar, he, hc, run_load]
  simp only [show (#[] : Array FieldStep).isEmpty = true from rfl, if_true, Sem.run_bind, h3, Result.andThen_ok, Sem.run_pure, he, Bool.false_eq_true, if_false, run_load, hc]
theorem info98 (n : String) (r : Nat × Bool) (h : (Tryz.prog.info? 98).map (fun i => (i.methods.find? (·.name == n)).map fun m => (m.path, m.func)) = some (some (#[], some r))) : ∃ i m, Tryz.prog.info? 98 = some i ∧ i.methods.find? (·.name == n) = some m ∧ m.path = #[] ∧ m.func = some r := by
  obtain ⟨i, h1, h2⟩ := Option.map_eq_some_iff.1 h
  obtain ⟨m, h3, h4⟩ := Option.map_eq_some_iff.1 h2
  exact ⟨i, m, h1, h3, congrArg Prod.fst h4, congrArg Prod.snd h4⟩
theorem agg100 (w : World) : (isAgg 100).run Tryz.prog w = .ok false w := by kernel_rfl
theorem meth98 (n : String) (f : FuncId) (h : (Tryz.prog.info? 98).map (fun i => (i.methods.find? (·.name == n)).map fun m => (m.path, m.func)) = some (some (#[], some (f, false)))) (b : Nat) (v : Value) (W : World) (hc : W.cell? ⟨b, 0, none⟩ = some v) : (method 313 98 (.pointer (some ⟨b, 0, none⟩)) n).run Tryz.prog W = .ok (f, v) W := by
  obtain ⟨i, m, h1, h2, h3, h4⟩ := info98 n _ h
  exact meth_val 312 98 100 _ n i m f v W h1 h2 h3 h4 Tryz.underlying98 (agg100 W) hc
theorem meth_less (b : Nat) (v : Value) (W : World) (hc : W.cell? ⟨b, 0, none⟩ = some v) : (method 313 98 (.pointer (some ⟨b, 0, none⟩)) "Less").run Tryz.prog W = .ok (181, v) W := meth98 _ _ (by kernel_rfl) b v W hc
theorem meth_swap (b : Nat) (v : Value) (W : World) (hc : W.cell? ⟨b, 0, none⟩ = some v) : (method 313 98 (.pointer (some ⟨b, 0, none⟩)) "Swap").run Tryz.prog W = .ok (184, v) W := meth98 _ _ (by kernel_rfl) b v W hc
theorem meth_len (b : Nat) (v : Value) (W : World) (hc : W.cell? ⟨b, 0, none⟩ = some v) : (method 313 98 (.pointer (some ⟨b, 0, none⟩)) "Len").run Tryz.prog W = .ok (61, v) W := meth98 _ _ (by kernel_rfl) b v W hc
theorem meth_push (b : Nat) (W : World) : (method 313 98 (.pointer (some ⟨b, 0, none⟩)) "Push").run Tryz.prog W = .ok (183, .pointer (some ⟨b, 0, none⟩)) W := by kernel_rfl
theorem meth_pop (b : Nat) (W : World) : (method 313 98 (.pointer (some ⟨b, 0, none⟩)) "Pop").run Tryz.prog W = .ok (182, .pointer (some ⟨b, 0, none⟩)) W := by kernel_rfl
theorem nil98 (b : Nat) (W : World) : (nilAhead 313 98 (.pointer (some ⟨b, 0, none⟩)) "Less").run Tryz.prog W = .ok (some false) W ∧ (nilAhead 313 98 (.pointer (some ⟨b, 0, none⟩)) "Len").run Tryz.prog W = .ok (some false) W ∧ (nilAhead 313 98 (.pointer (some ⟨b, 0, none⟩)) "Swap").run Tryz.prog W = .ok (some false) W ∧ (nilAhead 313 98 (.pointer (some ⟨b, 0, none⟩)) "Push").run Tryz.prog W = .ok (some false) W ∧ (nilAhead 313 98 (.pointer (some ⟨b, 0, none⟩)) "Pop").run Tryz.prog W = .ok (some false) W := ⟨by kernel_rfl, by kernel_rfl, by kernel_rfl, by kernel_rfl, by kernel_rfl⟩
theorem MH.cell {w : World} {base hb : Nat} {v : Value} {l : List Mo} (h : MH w base hb v l) : w.cell? ⟨hb, 0, none⟩ = some v := cell_of_one h.box
theorem mless_le {a b : Mo} (h : mless a b = false) : b.key ≤ a.key := by
  unfold mless at h
  have := of_decide_eq_false h
  omega
theorem mless_lt {a b : Mo} (h : mless a b = true) : a.key < b.key := of_decide_eq_true h
set_option maxHeartbeats 4000000 in
theorem up_any (l : List Mo) (base hb : Nat) (v : Value) (j : Nat) (w : World) (hm : MH w base hb v l) (hj : j < l.length) (hl : l.length ≤ 10000000) (hu : UpAt Mo.key Mo.d l l.length j) :
    Calls Tryz.prog 89 #[.iface 98 (.pointer (some ⟨hb, 0, none⟩)), .int .i64 j] w fun e w' => e = .returned (.tuple #[]) ∧ ∃ l', MH w' base hb v l' ∧ l'.Perm l ∧ Heap Mo.key Mo.d l' l'.length ∧ AK hb hb v w w' := by
  go_enter Tryz.func89, Tryz.ntmps89
  go_wp2
  go_loopw [1] (fun x wr => ∃ (l1 : List Mo) (j1 : Nat), x = .int .i64 j1 ∧ j1 < l1.length ∧ l1.length = l.length ∧ MH wr base hb v l1 ∧ l1.Perm l ∧ UpAt Mo.key Mo.d l1 l1.length j1 ∧ AK hb hb v w wr) (fun x _ => (intOf x).toNat)
  case atStart => exact ⟨l, j, rfl, hj, rfl, hm, List.Perm.refl _, hu, AK.refl _ _ _ _⟩
  case round =>
    obtain ⟨l1, j1, rfl, hj1, hl1, hm1, hp1, hu1, ha1⟩ := hrel
    have HM1 := Lib.hid hm1
    have HP1 := Lib.hid hp1
    have HU1 := Lib.hid hu1
    have HA1 := Lib.hid ha1
    have HJ1 := Lib.hid hj1
    have HL1 := Lib.hid hl1
    have jb : j1 < 10000000 := by omega
    clear hm hp1 hu1 ha1 hu hj hm1 hj1 hl1 hl
    have n1 : IntKind.i64.wrap ((j1 : Int) - 1) = (j1 : Int) - 1 := by rw [IntKind.wrap_i64] <;> omega
    have NL := (nil98 hb wr).1
    have ML := meth_less hb v wr HM1.out.cell
    by_cases hz : j1 = 0
    · subst hz
      have t0 : ((0 : Int) - 1).tdiv 2 = 0 := by decide
      have t1 : (-1 : Int).tdiv 2 = 0 := by decide
      go_wp2
      go_end0
      exact ⟨rfl, l1, HM1.out, HP1.out, up_end _ _ HU1.out (.inl rfl), HA1.out⟩
    · obtain ⟨p, hp⟩ : ∃ p : Nat, p = (j1 - 1) / 2 := ⟨_, rfl⟩
      have t0 : ((j1 : Int) - 1).tdiv 2 = (p : Int) := by
        have e : ((j1 : Int) - 1) = ((j1 - 1 : Nat) : Int) := by omega
        rw [e, hp]; rfl
      have hpl : p < j1 := by omega
      have hne : ((p : Int) == (j1 : Int)) = false := by
        rw [beq_eq_false_iff_ne]; omega
      have HPE := Lib.hid hp
      clear hp
      obtain ⟨r, hr⟩ : ∃ r, mless (el Mo.d l1 j1) (el Mo.d l1 p) = r := ⟨_, rfl⟩
      have HR := Lib.hid hr
      have LS : Hid (Calls Tryz.prog 181 #[v, .int .i64 j1, .int .i64 p] wr fun e w' => e = .returned (.bool r) ∧ Still wr w') := Lib.hid (by
        rw [← hr]; exact Less_any l1 base v j1 p wr HM1.out.own HJ1.out (by have := HJ1.out; omega))
      clear hr
      cases r
      · go_wp2_with (go_at_call 181; ((with_reducible refine LS.out.mono ?_); rintro e w2 ⟨rfl, hst⟩; have HST := Lib.hid hst; clear hst))
        go_end0
        refine ⟨rfl, l1, HM1.out.still HST.out, HP1.out, up_end _ _ HU1.out (.inr ?_), HA1.out.trans (Nx.refl _ _) (AK.still HST.out)⟩
        rw [← HPE.out]; exact mless_le HR.out
      · have SWP : Hid (∀ w2, Still wr w2 → (Calls Tryz.prog 184 #[v, .int .i64 p, .int .i64 j1] w2 fun e w' => e = .returned (.tuple #[]) ∧ MH w' base hb v (sw Mo.d l1 p j1) ∧ AK hb hb v w2 w') ∧ (method 313 98 (.pointer (some ⟨hb, 0, none⟩)) "Swap").run Tryz.prog w2 = .ok (184, v) w2 ∧ (nilAhead 313 98 (.pointer (some ⟨hb, 0, none⟩)) "Swap").run Tryz.prog w2 = .ok (some false) w2) := Lib.hid fun w2 hst => by
          have hm2 := HM1.out.still hst
          refine ⟨?_, meth_swap hb v w2 hm2.cell, (nil98 hb w2).2.2.1⟩
          exact swap_mh l1 base hb v p j1 w2 hm2 (by have := HJ1.out; omega) HJ1.out
        go_wp2_with (first
          | (go_at_call 181; ((with_reducible refine LS.out.mono ?_); rintro e w2 ⟨rfl, hst⟩; obtain ⟨sc, sm, sn⟩ := SWP.out w2 hst; have SC := Lib.hid sc; have HST := Lib.hid hst; clear hst sc))
          | (go_at_call 184; ((with_reducible refine SC.out.mono ?_); rintro e w3 ⟨rfl, hm3, ha3⟩; have HM3 := Lib.hid hm3; have HA3 := Lib.hid ha3; clear hm3 ha3)))
        go_roundw
        case rel =>
          have hj := HJ1.out
          refine ⟨sw Mo.d l1 p j1, p, rfl, by rw [sw_length]; omega, by rw [sw_length]; exact HL1.out, HM3.out, (sw_perm Mo.d (by omega) hj).trans HP1.out, ?_, (HA1.out.trans (Nx.refl _ _) (AK.still HST.out)).trans (Nx.refl _ _) HA3.out⟩
          rw [sw_length]
          have := HPE.out
          subst this
          exact up_step Mo.key Mo.d HU1.out (by omega) hj (Nat.le_refl _) (mless_lt HR.out)
        case measure => simp [intOf]; omega
end Go.Proofs.YtpdfmfkoopdfgaaGreatDoor
end
section
namespace Go.Proofs.YtpdfmfkoopdfgaaGreatDoor
set_option maxRecDepth 100000
open Go.RowKit Aid Gr Hs LinP HeapP

set_option maxHeartbeats 16000000 in
theorem down_any (l : List Mo) (base hb : Nat) (v : Value) (i0 n : Nat) (w : World) (hm : MH w base hb v l) (hn : n ≤ l.length) (hi : i0 ≤ n) (hl : l.length ≤ 10000000) (hu : DownAt Mo.key Mo.d l n i0) :
    Calls Tryz.prog 90 #[.iface 98 (.pointer (some ⟨hb, 0, none⟩)), .int .i64 i0, .int .i64 n] w fun e w' => (∃ b, e = .returned (.bool b)) ∧ ∃ l', MH w' base hb v l' ∧ l'.Perm l ∧ l'.length = l.length ∧ Heap Mo.key Mo.d l' n ∧ (∀ k, n ≤ k → el Mo.d l' k = el Mo.d l k) ∧ AK hb hb v w w' := by
  go_enter Tryz.func90, Tryz.ntmps90
  go_wp2
  go_loopw [7] (fun x wr => ∃ (l1 : List Mo) (i : Nat), x = .int .i64 i ∧ i ≤ n ∧ l1.length = l.length ∧ MH wr base hb v l1 ∧ l1.Perm l ∧ DownAt Mo.key Mo.d l1 n i ∧ (∀ k, n ≤ k → el Mo.d l1 k = el Mo.d l k) ∧ AK hb hb v w wr) (fun x _ => n - (intOf x).toNat)
  case atStart => exact ⟨l, i0, rfl, hi, rfl, hm, List.Perm.refl _, hu, fun _ _ => rfl, AK.refl _ _ _ _⟩
  case round =>
    obtain ⟨l1, i, rfl, hi1, hl1, hm1, hp1, hu1, hk1, ha1⟩ := hrel
    have HM1 := Lib.hid hm1
    have HP1 := Lib.hid hp1
    have HU1 := Lib.hid hu1
    have HA1 := Lib.hid ha1
    have HK1 := Lib.hid hk1
    have HL1 := Lib.hid hl1
    have HN := Lib.hid hn
    have nb : n ≤ 10000000 := by omega
    clear hm hp1 hu1 ha1 hu hm1 hl1 hl hk1 hn
    have n1 : IntKind.i64.wrap (2 * (i : Int)) = 2 * (i : Int) := by rw [IntKind.wrap_i64] <;> omega
    have n2 : IntKind.i64.wrap (2 * (i : Int) + 1) = 2 * (i : Int) + 1 := by rw [IntKind.wrap_i64] <;> omega
    have n3 : IntKind.i64.wrap (2 * (i : Int) + 1 + 1) = 2 * (i : Int) + 1 + 1 := by rw [IntKind.wrap_i64] <;> omega
    by_cases hA : n ≤ 2 * i + 1
    · have c0 : (n : Int) ≤ 2 * (i : Int) + 1 := by omega
      go_wp2
      go_ret
      exact ⟨⟨_, rfl⟩, l1, HM1.out, HP1.out, HL1.out, down_end _ _ HU1.out (fun k k0 k1 k2 => by omega), HK1.out, HA1.out⟩
    · have c0 : ¬ ((n : Int) ≤ 2 * (i : Int) + 1) := by omega
      have c1 : ¬ (2 * (i : Int) + 1 < 0) := by omega
      have e1 : (2 * (i : Int) + 1) = ((2 * i + 1 : Nat) : Int) := by omega
      have e2 : (2 * (i : Int) + 1 + 1) = ((2 * i + 2 : Nat) : Int) := by omega
      have NL := (nil98 hb wr).1
      have ML := meth_less hb v wr HM1.out.cell
      obtain ⟨L1, hL1⟩ : ∃ L1 : Prop, L1 = True := ⟨_, rfl⟩
      clear hL1 L1
      have LG : Hid (∀ (W : World) (jj : Nat) (x : Int) (r : Bool), Still wr W → jj < l1.length → x = (jj : Int) → mless (el Mo.d l1 jj) (el Mo.d l1 i) = r → (Calls Tryz.prog 181 #[v, .int .i64 x, .int .i64 i] W fun e w' => e = .returned (.bool r) ∧ Still wr w') ∧ (method 313 98 (.pointer (some ⟨hb, 0, none⟩)) "Less").run Tryz.prog W = .ok (181, v) W ∧ (nilAhead 313 98 (.pointer (some ⟨hb, 0, none⟩)) "Less").run Tryz.prog W = .ok (some false) W) := Lib.hid fun W jj x r hst hjj hx hr => by
        have hm2 := HM1.out.still hst
        subst hx
        refine ⟨?_, meth_less hb v W hm2.cell, (nil98 hb W).1⟩
        rw [← hr]
        refine (Less_any l1 base v jj i W hm2.own hjj (by have := HN.out; have := HL1.out; omega)).mono ?_
        rintro e w' ⟨h1, h2⟩
        exact ⟨h1, hst.trans h2⟩
      have SWP : Hid (∀ (W : World) (jj : Nat) (x : Int), Still wr W → jj < l1.length → x = (jj : Int) → (Calls Tryz.prog 184 #[v, .int .i64 i, .int .i64 x] W fun e w' => e = .returned (.tuple #[]) ∧ MH w' base hb v (sw Mo.d l1 i jj) ∧ AK hb hb v W w') ∧ (method 313 98 (.pointer (some ⟨hb, 0, none⟩)) "Swap").run Tryz.prog W = .ok (184, v) W ∧ (nilAhead 313 98 (.pointer (some ⟨hb, 0, none⟩)) "Swap").run Tryz.prog W = .ok (some false) W) := Lib.hid fun W jj x hst hjj hx => by
        have hm2 := HM1.out.still hst
        subst hx
        exact ⟨swap_mh l1 base hb v i jj W hm2 (by have := HN.out; have := HL1.out; omega) hjj, meth_swap hb v W hm2.cell, (nil98 hb W).2.2.1⟩
      have KEEP : Hid (∀ jj, jj < n → ∀ k, n ≤ k → el Mo.d (sw Mo.d l1 i jj) k = el Mo.d l k) := Lib.hid fun jj hjj k hk => by
        have h1 := HN.out
        have h2 := HL1.out
        rw [sw_el Mo.d (by omega) (by omega), if_neg (by omega), if_neg (by omega)]
        exact HK1.out k hk
      have LB : Hid (n ≤ l1.length) := Lib.hid (by rw [HL1.out]; exact HN.out)
      by_cases hB : 2 * i + 2 < n
      · have c2 : 2 * (i : Int) + 1 + 1 < (n : Int) := by omega
        obtain ⟨r1, hr1⟩ : ∃ r, mless (el Mo.d l1 (2 * i + 2)) (el Mo.d l1 (2 * i + 1)) = r := ⟨_, rfl⟩
        have HR1 := Lib.hid hr1
        have LS1 : Hid (Calls Tryz.prog 181 #[v, .int .i64 (2 * (i : Int) + 1 + 1), .int .i64 (2 * (i : Int) + 1)] wr fun e w' => e = .returned (.bool r1) ∧ Still wr w') := Lib.hid (by
          rw [← hr1, e2, e1]; exact Less_any l1 base v (2 * i + 2) (2 * i + 1) wr HM1.out.own (by have := LB.out; omega) (by have := LB.out; omega))
        clear hr1
        clear e1 e2
        cases r1
        · skip
          obtain ⟨r, hr⟩ : ∃ r, mless (el Mo.d l1 (2 * i + 1)) (el Mo.d l1 i) = r := ⟨_, rfl⟩
          have HR := Lib.hid hr
          have MIN : Hid (∀ k, 0 < k → k < n → (k - 1) / 2 = i → Mo.key (el Mo.d l1 (2 * i + 1)) ≤ Mo.key (el Mo.d l1 k)) := Lib.hid fun k k0 k1 k2 => by
            have h1 := mless_le HR1.out
            rcases (show k = 2 * i + 1 ∨ k = 2 * i + 2 by omega) with rfl | rfl
            · omega
            · exact h1
          have LS2 : Hid (∀ W : World, Still wr W → (Calls Tryz.prog 181 #[v, .int .i64 (2 * (i : Int) + 1), .int .i64 i] W fun e w' => e = .returned (.bool r) ∧ Still wr w') ∧ (method 313 98 (.pointer (some ⟨hb, 0, none⟩)) "Less").run Tryz.prog W = .ok (181, v) W ∧ (nilAhead 313 98 (.pointer (some ⟨hb, 0, none⟩)) "Less").run Tryz.prog W = .ok (some false) W) := Lib.hid fun W hst => LG.out W (2 * i + 1) (2 * (i : Int) + 1) r hst (by have := LB.out; omega) (by omega) hr
          have SW2 : Hid (∀ W : World, Still wr W → (Calls Tryz.prog 184 #[v, .int .i64 i, .int .i64 (2 * (i : Int) + 1)] W fun e w' => e = .returned (.tuple #[]) ∧ MH w' base hb v (sw Mo.d l1 i (2 * i + 1)) ∧ AK hb hb v W w') ∧ (method 313 98 (.pointer (some ⟨hb, 0, none⟩)) "Swap").run Tryz.prog W = .ok (184, v) W ∧ (nilAhead 313 98 (.pointer (some ⟨hb, 0, none⟩)) "Swap").run Tryz.prog W = .ok (some false) W) := Lib.hid fun W hst => SWP.out W (2 * i + 1) (2 * (i : Int) + 1) hst (by have := LB.out; omega) (by omega)
          clear hr LG SWP
          cases r
          · go_wp2_with (first
              | (go_at_call 181; ((with_reducible refine LS1.out.mono ?_); rintro e w2 ⟨rfl, hst⟩; obtain ⟨sc, sm, sn⟩ := LS2.out w2 hst; have SC := Lib.hid sc; clear hst sc))
              | (go_at_call 181; ((with_reducible refine SC.out.mono ?_); rintro e w3 ⟨rfl, hst3⟩; obtain ⟨sc3, sm3, sn3⟩ := SW2.out w3 hst3; have SC3 := Lib.hid sc3; have HST3 := Lib.hid hst3; clear hst3 sc3)))
            go_ret
            exact ⟨⟨_, rfl⟩, l1, HM1.out.still HST3.out, HP1.out, HL1.out, down_end _ _ HU1.out (fun k k0 k1 k2 => Int.le_trans (mless_le HR.out) (MIN.out k k0 k1 k2)), HK1.out, HA1.out.trans (Nx.refl _ _) (AK.still HST3.out)⟩
          · go_wp2_with (first
              | (go_at_call 181; ((with_reducible refine LS1.out.mono ?_); rintro e w2 ⟨rfl, hst⟩; obtain ⟨sc, sm, sn⟩ := LS2.out w2 hst; have SC := Lib.hid sc; clear hst sc))
              | (go_at_call 181; ((with_reducible refine SC.out.mono ?_); rintro e w3 ⟨rfl, hst3⟩; obtain ⟨sc3, sm3, sn3⟩ := SW2.out w3 hst3; have SC3 := Lib.hid sc3; have HST3 := Lib.hid hst3; clear hst3 sc3))
              | (go_at_call 184; ((with_reducible refine SC3.out.mono ?_); rintro e w4 ⟨rfl, hm4, ha4⟩; have HM4 := Lib.hid hm4; have HA4 := Lib.hid ha4; clear hm4 ha4)))
            go_roundw
            case rel =>
              refine ⟨sw Mo.d l1 i (2 * i + 1), 2 * i + 1, by go_num, by omega, by rw [sw_length]; exact HL1.out, HM4.out, (sw_perm Mo.d (by have := LB.out; omega) (by have := LB.out; omega)).trans HP1.out, ?_, KEEP.out _ (by omega), (HA1.out.trans (Nx.refl _ _) (AK.still HST3.out)).trans (Nx.refl _ _) HA4.out⟩
              exact down_step Mo.key Mo.d HU1.out LB.out (by omega) (by omega) (by omega) MIN.out (mless_lt HR.out)
            case measure => simp [intOf]; omega
        · skip
          obtain ⟨r, hr⟩ : ∃ r, mless (el Mo.d l1 (2 * i + 2)) (el Mo.d l1 i) = r := ⟨_, rfl⟩
          have HR := Lib.hid hr
          have MIN : Hid (∀ k, 0 < k → k < n → (k - 1) / 2 = i → Mo.key (el Mo.d l1 (2 * i + 2)) ≤ Mo.key (el Mo.d l1 k)) := Lib.hid fun k k0 k1 k2 => by
            have h1 := mless_lt HR1.out
            rcases (show k = 2 * i + 1 ∨ k = 2 * i + 2 by omega) with rfl | rfl
            · omega
            · omega
          have LS2 : Hid (∀ W : World, Still wr W → (Calls Tryz.prog 181 #[v, .int .i64 (2 * (i : Int) + 1 + 1), .int .i64 i] W fun e w' => e = .returned (.bool r) ∧ Still wr w') ∧ (method 313 98 (.pointer (some ⟨hb, 0, none⟩)) "Less").run Tryz.prog W = .ok (181, v) W ∧ (nilAhead 313 98 (.pointer (some ⟨hb, 0, none⟩)) "Less").run Tryz.prog W = .ok (some false) W) := Lib.hid fun W hst => LG.out W (2 * i + 2) (2 * (i : Int) + 1 + 1) r hst (by have := LB.out; omega) (by omega) hr
          have SW2 : Hid (∀ W : World, Still wr W → (Calls Tryz.prog 184 #[v, .int .i64 i, .int .i64 (2 * (i : Int) + 1 + 1)] W fun e w' => e = .returned (.tuple #[]) ∧ MH w' base hb v (sw Mo.d l1 i (2 * i + 2)) ∧ AK hb hb v W w') ∧ (method 313 98 (.pointer (some ⟨hb, 0, none⟩)) "Swap").run Tryz.prog W = .ok (184, v) W ∧ (nilAhead 313 98 (.pointer (some ⟨hb, 0, none⟩)) "Swap").run Tryz.prog W = .ok (some false) W) := Lib.hid fun W hst => SWP.out W (2 * i + 2) (2 * (i : Int) + 1 + 1) hst (by have := LB.out; omega) (by omega)
          clear hr LG SWP
          cases r
          · go_wp2_with (first
              | (go_at_call 181; ((with_reducible refine LS1.out.mono ?_); rintro e w2 ⟨rfl, hst⟩; obtain ⟨sc, sm, sn⟩ := LS2.out w2 hst; have SC := Lib.hid sc; clear hst sc))
              | (go_at_call 181; ((with_reducible refine SC.out.mono ?_); rintro e w3 ⟨rfl, hst3⟩; obtain ⟨sc3, sm3, sn3⟩ := SW2.out w3 hst3; have SC3 := Lib.hid sc3; have HST3 := Lib.hid hst3; clear hst3 sc3)))
            go_ret
            exact ⟨⟨_, rfl⟩, l1, HM1.out.still HST3.out, HP1.out, HL1.out, down_end _ _ HU1.out (fun k k0 k1 k2 => Int.le_trans (mless_le HR.out) (MIN.out k k0 k1 k2)), HK1.out, HA1.out.trans (Nx.refl _ _) (AK.still HST3.out)⟩
          · go_wp2_with (first
              | (go_at_call 181; ((with_reducible refine LS1.out.mono ?_); rintro e w2 ⟨rfl, hst⟩; obtain ⟨sc, sm, sn⟩ := LS2.out w2 hst; have SC := Lib.hid sc; clear hst sc))
              | (go_at_call 181; ((with_reducible refine SC.out.mono ?_); rintro e w3 ⟨rfl, hst3⟩; obtain ⟨sc3, sm3, sn3⟩ := SW2.out w3 hst3; have SC3 := Lib.hid sc3; have HST3 := Lib.hid hst3; clear hst3 sc3))
              | (go_at_call 184; ((with_reducible refine SC3.out.mono ?_); rintro e w4 ⟨rfl, hm4, ha4⟩; have HM4 := Lib.hid hm4; have HA4 := Lib.hid ha4; clear hm4 ha4)))
            go_roundw
            case rel =>
              refine ⟨sw Mo.d l1 i (2 * i + 2), 2 * i + 2, by go_num, by omega, by rw [sw_length]; exact HL1.out, HM4.out, (sw_perm Mo.d (by have := LB.out; omega) (by have := LB.out; omega)).trans HP1.out, ?_, KEEP.out _ (by omega), (HA1.out.trans (Nx.refl _ _) (AK.still HST3.out)).trans (Nx.refl _ _) HA4.out⟩
              exact down_step Mo.key Mo.d HU1.out LB.out (by omega) (by omega) (by omega) MIN.out (mless_lt HR.out)
            case measure => simp [intOf]; omega
      · have c2 : ¬ (2 * (i : Int) + 1 + 1 < (n : Int)) := by omega
        clear e1 e2
        obtain ⟨r, hr⟩ : ∃ r, mless (el Mo.d l1 (2 * i + 1)) (el Mo.d l1 i) = r := ⟨_, rfl⟩
        have HR := Lib.hid hr
        have MIN : Hid (∀ k, 0 < k → k < n → (k - 1) / 2 = i → Mo.key (el Mo.d l1 (2 * i + 1)) ≤ Mo.key (el Mo.d l1 k)) := Lib.hid fun k k0 k1 k2 => by
          obtain rfl : k = 2 * i + 1 := by omega
          omega
        have LS2 : Hid (∀ W : World, Still wr W → (Calls Tryz.prog 181 #[v, .int .i64 (2 * (i : Int) + 1), .int .i64 i] W fun e w' => e = .returned (.bool r) ∧ Still wr w') ∧ (method 313 98 (.pointer (some ⟨hb, 0, none⟩)) "Less").run Tryz.prog W = .ok (181, v) W ∧ (nilAhead 313 98 (.pointer (some ⟨hb, 0, none⟩)) "Less").run Tryz.prog W = .ok (some false) W) := Lib.hid fun W hst => LG.out W (2 * i + 1) (2 * (i : Int) + 1) r hst (by have := LB.out; omega) (by omega) hr
        have SW2 : Hid (∀ W : World, Still wr W → (Calls Tryz.prog 184 #[v, .int .i64 i, .int .i64 (2 * (i : Int) + 1)] W fun e w' => e = .returned (.tuple #[]) ∧ MH w' base hb v (sw Mo.d l1 i (2 * i + 1)) ∧ AK hb hb v W w') ∧ (method 313 98 (.pointer (some ⟨hb, 0, none⟩)) "Swap").run Tryz.prog W = .ok (184, v) W ∧ (nilAhead 313 98 (.pointer (some ⟨hb, 0, none⟩)) "Swap").run Tryz.prog W = .ok (some false) W) := Lib.hid fun W hst => SWP.out W (2 * i + 1) (2 * (i : Int) + 1) hst (by have := LB.out; omega) (by omega)
        clear hr LG SWP
        have LS0 := Lib.hid (LS2.out wr (Still.refl wr)).1
        cases r
        · go_wp2_with (first
            | (go_at_call 181; ((with_reducible refine LS0.out.mono ?_); rintro e w3 ⟨rfl, hst3⟩; obtain ⟨sc3, sm3, sn3⟩ := SW2.out w3 hst3; have SC3 := Lib.hid sc3; have HST3 := Lib.hid hst3; clear hst3 sc3)))
          go_ret
          exact ⟨⟨_, rfl⟩, l1, HM1.out.still HST3.out, HP1.out, HL1.out, down_end _ _ HU1.out (fun k k0 k1 k2 => Int.le_trans (mless_le HR.out) (MIN.out k k0 k1 k2)), HK1.out, HA1.out.trans (Nx.refl _ _) (AK.still HST3.out)⟩
        · go_wp2_with (first
            | (go_at_call 181; ((with_reducible refine LS0.out.mono ?_); rintro e w3 ⟨rfl, hst3⟩; obtain ⟨sc3, sm3, sn3⟩ := SW2.out w3 hst3; have SC3 := Lib.hid sc3; have HST3 := Lib.hid hst3; clear hst3 sc3))
            | (go_at_call 184; ((with_reducible refine SC3.out.mono ?_); rintro e w4 ⟨rfl, hm4, ha4⟩; have HM4 := Lib.hid hm4; have HA4 := Lib.hid ha4; clear hm4 ha4)))
          go_roundw
          case rel =>
            refine ⟨sw Mo.d l1 i (2 * i + 1), 2 * i + 1, by go_num, by omega, by rw [sw_length]; exact HL1.out, HM4.out, (sw_perm Mo.d (by have := LB.out; omega) (by have := LB.out; omega)).trans HP1.out, ?_, KEEP.out _ (by omega), (HA1.out.trans (Nx.refl _ _) (AK.still HST3.out)).trans (Nx.refl _ _) HA4.out⟩
            exact down_step Mo.key Mo.d HU1.out LB.out (by omega) (by omega) (by omega) MIN.out (mless_lt HR.out)
          case measure => simp [intOf]; omega
end Go.Proofs.YtpdfmfkoopdfgaaGreatDoor
end
section
namespace Go.Proofs.YtpdfmfkoopdfgaaGreatDoor
set_option maxRecDepth 100000
open Go.RowKit Aid Gr Hs LinP HeapP

theorem MH.form {w : World} {base hb : Nat} {v : Value} {l : List Mo} (h : MH w base hb v l) : ∃ A c, v = .slice A l.length c := own_slice h.own
set_option maxHeartbeats 8000000 in
theorem Push_any (l : List Mo) (base hb : Nat) (v : Value) (m : Mo) (w : World) (hm : MH w base hb v l) (hl : l.length ≤ 9000000) (hh : Heap Mo.key Mo.d l l.length) :
    Calls Tryz.prog 60 #[.iface 98 (.pointer (some ⟨hb, 0, none⟩)), .iface 103 (.agg #[.int .i64 m.t, .bool m.ends, .int .i64 m.i])] w fun e w' => e = .returned (.tuple #[]) ∧ ∃ v' l', MH w' base hb v' l' ∧ l'.Perm (l ++ [m]) ∧ Heap Mo.key Mo.d l' l'.length ∧ AK hb hb v w w' ∧ Nx v v' w := by
  have PA := Lib.hid (push_any l base hb v m w hm (by omega))
  have NP := (nil98 hb w).2.2.2.1
  have MP := meth_push hb w
  have ln : Hid ((l ++ [m]).length = l.length + 1) := Lib.hid (by simp)
  have NX : Hid (∀ (W : World) (v' : Value), MH W base hb v' (l ++ [m]) → ∃ A c, v' = .slice A (l.length + 1) c ∧ (nilAhead 313 98 (.pointer (some ⟨hb, 0, none⟩)) "Len").run Tryz.prog W = .ok (some false) W ∧ (method 313 98 (.pointer (some ⟨hb, 0, none⟩)) "Len").run Tryz.prog W = .ok (61, .slice A (l.length + 1) c) W ∧ (Calls Tryz.prog 89 #[.iface 98 (.pointer (some ⟨hb, 0, none⟩)), .int .i64 l.length] W fun e w' => e = .returned (.tuple #[]) ∧ ∃ l', MH w' base hb v' l' ∧ l'.Perm (l ++ [m]) ∧ Heap Mo.key Mo.d l' l'.length ∧ AK hb hb v' W w')) := Lib.hid fun W v' h => by
    obtain ⟨A, c, hv⟩ := h.form
    rw [ln.out] at hv
    refine ⟨A, c, hv, (nil98 hb W).2.1, ?_, ?_⟩
    · rw [← hv]; exact meth_len hb v' W h.cell
    · exact up_any (l ++ [m]) base hb v' l.length W h (by rw [ln.out]; omega) (by rw [ln.out]; omega) (by rw [ln.out]; exact up_start Mo.key Mo.d m hh)
  have n3 : IntKind.i64.wrap ((l.length : Int)) = (l.length : Int) := by rw [IntKind.wrap_i64] <;> omega
  have n4 : IntKind.i64.wrap ((l.length : Int) + 1 - 1) = (l.length : Int) := by rw [Int.add_sub_cancel]; exact n3
  clear hm hh hl ln
  go_enter Tryz.func60, Tryz.ntmps60
  go_wp2_with (first
    | (go_at_call 183; ((with_reducible refine PA.out.mono ?_); rintro e w2 ⟨rfl, v2, hm2, ha2, hx2⟩; obtain ⟨A2, c2, hv2, nl2, ml2, up2⟩ := NX.out w2 v2 hm2; have HM2 := Lib.hid hm2; have HA2 := Lib.hid ha2; have HX2 := Lib.hid hx2; have UP2 := Lib.hid up2; clear hm2 ha2 hx2 up2))
    | (go_at_call 61; ((with_reducible refine (Len_any _ _ _ _).mono ?_); rintro e w3 ⟨rfl, rfl⟩))
    | (go_at_call 89; ((with_reducible refine UP2.out.mono ?_); rintro e w4 ⟨rfl, hr4⟩; have HR4 := Lib.hid hr4; clear hr4)))
  go_end0
  obtain ⟨l', h1, h2, h3, h4⟩ := HR4.out
  exact ⟨rfl, v2, l', h1, h2, h3, HA2.out.trans HX2.out h4, HX2.out⟩
theorem mem_el {l : List Mo} {y : Mo} (h : y ∈ l) : ∃ k, k < l.length ∧ el Mo.d l k = y := by
  obtain ⟨k, hk, e⟩ := List.getElem_of_mem h
  exact ⟨k, hk, by rw [el_get Mo.d hk]; exact e⟩
set_option maxHeartbeats 8000000 in
theorem Pop_any (l : List Mo) (n base hb : Nat) (v : Value) (w : World) (hm : MH w base hb v l) (hn : l.length = n + 1) (hl : l.length ≤ 9000000) (hh : Heap Mo.key Mo.d l l.length) :
    Calls Tryz.prog 62 #[.iface 98 (.pointer (some ⟨hb, 0, none⟩))] w fun e w' => ∃ x v' l', e = .returned (.iface 103 x.val) ∧ MH w' base hb v' l' ∧ (x :: l').Perm l ∧ (∀ y ∈ l, x.key ≤ y.key) ∧ Heap Mo.key Mo.d l' l'.length ∧ AK hb hb v w w' ∧ v'.ownBlock = v.ownBlock := by
  obtain ⟨A, c, hv⟩ := hm.form
  rw [hn] at hv
  have SW : Hid (Calls Tryz.prog 184 #[v, .int .i64 0, .int .i64 n] w fun e w' => e = .returned (.tuple #[]) ∧ MH w' base hb v (sw Mo.d l 0 n) ∧ AK hb hb v w w') := Lib.hid (swap_mh l base hb v 0 n w hm (by omega) (by omega))
  have NL := (nil98 hb w).2.1
  have NS := (nil98 hb w).2.2.1
  have ML := meth_len hb v w hm.cell
  have MS := meth_swap hb v w hm.cell
  have n3 : IntKind.i64.wrap ((n : Int)) = (n : Int) := by rw [IntKind.wrap_i64] <;> omega
  have n4 : IntKind.i64.wrap ((n : Int) + 1 - 1) = (n : Int) := by rw [Int.add_sub_cancel]; exact n3
  have DN : Hid (∀ W : World, MH W base hb v (sw Mo.d l 0 n) → (Calls Tryz.prog 90 #[.iface 98 (.pointer (some ⟨hb, 0, none⟩)), .int .i64 0, .int .i64 n] W fun e w' => (∃ b, e = .returned (.bool b)) ∧ ∃ l', MH w' base hb v l' ∧ l'.Perm (sw Mo.d l 0 n) ∧ l'.length = (sw Mo.d l 0 n).length ∧ Heap Mo.key Mo.d l' n ∧ (∀ k, n ≤ k → el Mo.d l' k = el Mo.d (sw Mo.d l 0 n) k) ∧ AK hb hb v W w')) := Lib.hid fun W h => down_any (sw Mo.d l 0 n) base hb v 0 n W h (by rw [sw_length]; omega) (Nat.zero_le _) (by rw [sw_length]; omega) (down_start Mo.key Mo.d (by rw [← hn]; exact hh) (by omega))
  have PO : Hid (∀ (W : World) (l' : List Mo), MH W base hb v l' → l'.length = (sw Mo.d l 0 n).length → (nilAhead 313 98 (.pointer (some ⟨hb, 0, none⟩)) "Pop").run Tryz.prog W = .ok (some false) W ∧ (method 313 98 (.pointer (some ⟨hb, 0, none⟩)) "Pop").run Tryz.prog W = .ok (182, .pointer (some ⟨hb, 0, none⟩)) W ∧ (Calls Tryz.prog 182 #[.pointer (some ⟨hb, 0, none⟩)] W fun e w' => e = .returned (.iface 103 (el Mo.d l' n).val) ∧ ∃ v', MH w' base hb v' (l'.take n) ∧ AK hb hb v W w' ∧ v'.ownBlock = v.ownBlock)) := Lib.hid fun W l' h hle => ⟨(nil98 hb W).2.2.2.2, meth_pop hb W, pop_any l' n base hb v W h (by rw [hle, sw_length]; exact hn) (by rw [hle, sw_length]; omega)⟩
  have FIN : Hid (∀ l' : List Mo, l'.Perm (sw Mo.d l 0 n) → l'.length = (sw Mo.d l 0 n).length → Heap Mo.key Mo.d l' n → (∀ k, n ≤ k → el Mo.d l' k = el Mo.d (sw Mo.d l 0 n) k) → (el Mo.d l' n :: l'.take n).Perm l ∧ (∀ y ∈ l, (el Mo.d l' n).key ≤ y.key) ∧ Heap Mo.key Mo.d (l'.take n) (l'.take n).length) := Lib.hid fun l' hp hle hhp hk => by
    have hlen : l'.length = n + 1 := by rw [hle, sw_length]; exact hn
    have e0 : el Mo.d l' n = el Mo.d l 0 := by
      rw [hk n (Nat.le_refl _), sw_el Mo.d (by omega) (by omega), if_pos rfl]
    refine ⟨?_, ?_, ?_⟩
    · have h1 := take_last Mo.d hlen
      have h2 : (el Mo.d l' n :: l'.take n).Perm (l'.take n ++ [el Mo.d l' n]) := (List.perm_append_comm (l₁ := [el Mo.d l' n]) (l₂ := l'.take n))
      rw [← h1] at h2
      exact (h2.trans hp).trans (sw_perm Mo.d (by omega) (by omega))
    · intro y hy
      obtain ⟨k, hk2, rfl⟩ := mem_el hy
      rw [e0]; exact heap_min Mo.key Mo.d hh k hk2
    · have : (l'.take n).length = n := by rw [List.length_take]; omega
      rw [this]; exact heap_take Mo.key Mo.d hhp
  subst hv
  clear hm hh hl hn
  go_enter Tryz.func62, Tryz.ntmps62
  go_wp2_with (first
    | (go_at_call 61; ((with_reducible refine (Len_any _ _ _ _).mono ?_); rintro e w1 ⟨rfl, rfl⟩))
    | (go_at_call 184; ((with_reducible refine SW.out.mono ?_); rintro e w2 ⟨rfl, hm2, ha2⟩; have dn := DN.out w2 hm2; have DN2 := Lib.hid dn; have HA2 := Lib.hid ha2; clear hm2 ha2 dn))
    | (go_at_call 90; ((with_reducible refine DN2.out.mono ?_); rintro e w3 ⟨⟨b3, rfl⟩, l3, hm3, hp3, hl3, hh3, hk3, ha3⟩; obtain ⟨np3, mp3, po3⟩ := PO.out w3 l3 hm3 hl3; have PO3 := Lib.hid po3; have HF3 := Lib.hid (FIN.out l3 hp3 hl3 hh3 hk3); have HA3 := Lib.hid ha3; clear hm3 hp3 hl3 hh3 hk3 ha3 po3))
    | (go_at_call 182; ((with_reducible refine PO3.out.mono ?_); rintro e w4 ⟨rfl, hr4⟩; have HR4 := Lib.hid hr4; clear hr4)))
  go_ret
  obtain ⟨v', h1, h2, h3⟩ := HR4.out
  exact ⟨_, v', _, rfl, h1, HF3.out.1, HF3.out.2.1, HF3.out.2.2, (HA2.out.trans (Nx.refl _ _) HA3.out).trans (Nx.refl _ _) h2, h3⟩
end Go.Proofs.YtpdfmfkoopdfgaaGreatDoor
end
