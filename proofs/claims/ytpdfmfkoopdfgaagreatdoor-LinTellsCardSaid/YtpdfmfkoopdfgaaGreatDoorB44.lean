/- HRefPoints. -/
import Derived.Test.YtpdfmfkoopdfgaaGreatDoorB43
import Derived.StillTailTactics
set_option linter.unusedVariables false
namespace Go.Proofs.YtpdfmfkoopdfgaaGreatDoor.Hs
set_option maxRecDepth 100000
open Go.RowKit Aid

/-- The box of an answer. -/
abbrev obx (a : Cl) : Obj := .cells #[.int .i64 a.err, .bool a.is, .int .i64 a.n, .int .u64 a.w, .slice none 0 0] 41
theorem out_at (w : World) (a : Cl) : (w.alloc (obx a)).cell? ⟨w.heap.size, 0, none⟩ = some (.int .i64 a.err) ∧ (w.alloc (obx a)).cell? ⟨w.heap.size, 1, none⟩ = some (.bool a.is) ∧ (w.alloc (obx a)).cell? ⟨w.heap.size, 2, none⟩ = some (.int .i64 a.n) ∧ (w.alloc (obx a)).cell? ⟨w.heap.size, 3, none⟩ = some (.int .u64 a.w) ∧ (w.alloc (obx a)).cell? ⟨w.heap.size, 4, none⟩ = some (.slice none 0 0) := by
  unfold obx
  refine ⟨?_, ?_, ?_, ?_, ?_⟩ <;> (rw [World.cell?_alloc_new]; rfl)
theorem At.grown {w w' : World} {b o : Nat} {a : Cl} {row : Option Nat} (h : At w b o a) (hg : w.grownBy w' row) (hne : row ≠ some b) : At w' b o a := by
  obtain ⟨h0, h1, h2, h3, h4, h5, h6, h7, h8, h9, h10, h11, h12⟩ := h
  have t : ∀ {j : Nat} {v : Value}, w.cell? ⟨b, j, none⟩ = some v → w'.cell? ⟨b, j, none⟩ = some v := fun {j} {_} h => hg.cell h (fun e => hne e.symm)
  exact ⟨t h0, t h1, t h2, t h3, t h4, t h5, t h6, t h7, t h8, t h9, t h10, t h11, t h12⟩
theorem own_drewN {w : World} {base e size : Nat} {v : Value} {n : Nat} {xs : List Value} (h : w.ownsRow base e size v n xs) : ∀ q, (w.drewN q).ownsRow base e size v n xs
  | 0 => h
  | q + 1 => own_drewN h q
theorem cell_drewN {w : World} {p : Addr} {v : Value} (h : w.cell? p = some v) : ∀ q, (w.drewN q).cell? p = some v
  | 0 => h
  | q + 1 => cell_drewN h q
theorem at_drewN {w : World} {b o : Nat} {a : Cl} (h : At w b o a) : ∀ q, At (w.drewN q) b o a
  | 0 => h
  | q + 1 => at_drewN h q
set_option maxHeartbeats 16000000 in
set_option maxRecDepth 100000 in
theorem rPoints_any (A : Option Addr) (c n : Nat) (l : List Cl) (w : World) (hn : n = l.length) (hl : Cls w A l) (h40 : l.length ≤ 12) (hf : ∀ a ∈ l, a.list.length ≤ 9223372036854775807) :
    Calls Tryz.prog 29 #[.slice A n c] w fun e w' => ∃ B d, e = .returned (.slice B (pointsOf l).length d) ∧ Sl w' B (flat (pointsOf l)) ∧ Below w.heap.size w w' ∧ (pointsOf l).length ≤ d := by
  have HN := Lib.hid hn
  have HL := Lib.hid hl
  have HF := Lib.hid hf
  have DK := Lib.hid (rKeys_any A c n l w hn hl h40)
  have kl := keys_len l
  have kb : (keysOf l).length ≤ 24 := by omega
  have nb : n ≤ 12 := by omega
  clear hn hl hf kl h40
  obtain ⟨i0', hi0, hz0, hz1, hz2⟩ := info_parts pt_info
  unfold pointsOf
  generalize keysOf l = keys at DK kb ⊢
  go_enter Tryz.func29, Tryz.ntmps29
  go_wp2_with (go_at_call 45; ((with_reducible refine DK.out.mono ?_); rintro e w1 ⟨K, kd, rfl, hs, hb⟩; have S1 := Lib.hid hs; have H1 := Lib.hid hb; clear hs hb))
  go_loopw [4, 5] (fun sv v wr => ∃ i : Nat, i ≤ n ∧ v = .int .i64 i ∧ wr.ownsRow w1.heap.size 75 14 sv (pointsK (l.take i) keys).length (flat (pointsK (l.take i) keys)) ∧ Below w1.heap.size w1 wr) (fun _ v _ => n - (intOf v).toNat)
  case atStart => exact ⟨0, Nat.zero_le _, rfl, World.ownsRow_nil _ _ _ _, Below.refl _ _⟩
  case round =>
    obtain ⟨i, hi, rfl, ho, hb⟩ := hrel
    obtain ⟨U, uc, hU⟩ := own_any ho
    subst hU
    have HO := Lib.hid ho
    have HB := Lib.hid hb
    clear hb ho
    obtain ⟨w0, hw0⟩ : ∃ w0, w0 = wr := ⟨_, rfl⟩
    subst hw0
    by_cases hlt : i < n
    · have i0 : (0 : Int) ≤ (i : Int) := by omega
      have i1 : (i : Int) < (n : Int) := by omega
      have n3 : IntKind.i64.wrap ((i : Int) + 1) = (i : Int) + 1 := by rw [IntKind.wrap_i64] <;> omega
      obtain ⟨a, hal⟩ : ∃ a, l[i]? = some a := ⟨l[i]'(by rw [← HN.out]; exact hlt), List.getElem?_eq_getElem _⟩
      have HW := Lib.hid (H1.out.trans (HB.out.mono H1.out.size))
      obtain ⟨p, off, hA, hat⟩ := (HL.out.below HW.out (Nat.le_refl _)).get hal
      obtain ⟨c0, c1, c2, c3, c4, c5, c6, c7, c8, c9, c10, c11, c12⟩ := hat
      subst hA
      have ham : a ∈ l := List.mem_of_getElem? hal
      have LB := Lib.hid (HF.out a ham)
      have HSL := Lib.hid (HL.out.1 a ham)
      have NX : Hid (pointsK (l.take (i + 1)) keys = pointsK (l.take i) keys ++ ptsOf a keys) := Lib.hid (by rw [points_next (by have := HN.out; omega), (List.getElem?_eq_some_iff.1 hal).2])
      have hle : (pointsK (l.take i) keys).length ≤ 12 * 25 := by
        refine Nat.le_trans (points_le keys _) (Nat.mul_le_mul ?_ (by omega))
        rw [List.length_take]; omega
      clear hal ham
      have T0 : Hid (∀ W, Below (w0.alloc (bx a)).heap.size (w0.alloc (bx a)) W → At W w0.heap.size 0 a ∧ Sl W K (keys.map (Value.int .i64)) ∧ Sl W a.A (a.list.map (Value.int .i64)) ∧ Below w1.heap.size w1 W ∧ W.ownsRow w1.heap.size 75 14 (.slice U (pointsK (l.take i) keys).length uc) (pointsK (l.take i) keys).length (flat (pointsK (l.take i) keys))) := Lib.hid fun W hW => by
        have h0 : Below w1.heap.size w1 (w0.alloc (bx a)) := HB.out.alloc HB.out.size (bx a)
        have h1 : Below w1.heap.size w1 W := h0.trans (hW.mono h0.size)
        exact ⟨(at_box w0 a).below hW (Nat.le_refl _), S1.out.below h1 (Nat.le_refl _), HSL.out.below (H1.out.trans (h1.mono H1.out.size)) (Nat.le_refl _), h1, row_below (HO.out.alloc (bx a)) hW (Nat.le_refl _)⟩
      have DO : Hid (∀ W, Calls Tryz.prog 20 #[a.val] W fun e w' => e = .returned (.bool (openB a)) ∧ Below W.heap.size W w') := Lib.hid fun W => rOpen_any a W
      have DI : Hid (∀ W, Calls Tryz.prog 46 #[a.val] W fun e w' => e = .returned (.bool (idleB a)) ∧ Below W.heap.size W w') := Lib.hid fun W => rIdle_any a W
      have DS : Hid (∀ W, Calls Tryz.prog 48 #[.int .i64 a.k] W fun e w' => e = .returned (.bool (asksB a.k)) ∧ W = w') := Lib.hid fun W => rAsks_any a.k W
      have PT : Hid (ptsOf a keys = if (openB a && asksB a.k) || idleB a then [] else if openB a then [ptOpen a] else if a.k ≠ 17 then [ptPlain a] else ptFirst a :: (if a.is then nears a keys else [])) := Lib.hid rfl
      generalize openB a = ob at DO PT
      generalize idleB a = ib at DI PT
      generalize asksB a.k = ab at DS PT
      generalize ptsOf a keys = qs at NX PT
      generalize pointsK (l.take i) keys = ps at HO NX T0 hle
      have m1 : ps.length + 1 ≤ maxLen := by unfold maxLen; omega
      have y1 : (ps.length + 1) * 128 ≤ 140737488355328 := by omega
      unfold Cl.val at DO DI
      unfold bx at T0
      have X0 := Lib.hid (T0.out _ (Below.refl _ _)).1
      obtain ⟨x0, x1, x2, x3, x4, x5, x6, x7, x8, x9, x10, x11, x12⟩ := X0.out
      go_upto_region 10 with (first | (go_at_call 20; ((with_reducible refine (DO.out _).mono ?_); rintro e w6 ⟨rfl, hb⟩; have H6 := Lib.hid hb; clear x0 x1 x2 x3 x4 x5 x6 x7 x8 x9 x10 x11 x12; obtain ⟨x0, x1, x2, x3, x4, x5, x6, x7, x8, x9, x10, x11, x12⟩ := (T0.out _ H6.out).1; clear hb)) | (go_at_call 46; ((with_reducible refine (DI.out _).mono ?_); rintro e w7 ⟨rfl, hb⟩; have H7 := Lib.hid (H6.out.trans (hb.mono H6.out.size)); clear x0 x1 x2 x3 x4 x5 x6 x7 x8 x9 x10 x11 x12; obtain ⟨x0, x1, x2, x3, x4, x5, x6, x7, x8, x9, x10, x11, x12⟩ := (T0.out _ H7.out).1; clear hb)) | (go_at_call 48; ((with_reducible refine (DS.out _).mono ?_); rintro e w8 ⟨rfl, rfl⟩)))
      clear c0 c1 c2 c3 c4 c5 c6 c7 c8 c9 c10 c11 c12 X0
      clear DO DI DS
      have H7' := H7.out
      have HE := Lib.hid (T0.out _ H7.out).2.2.2
      cases ib
      case true =>
        have hq := Lib.hid (NX.out.trans (by rw [PT.out]; simp) : pointsK (l.take (i + 1)) keys = ps)
        go_wp2
        go_roundw
        case rel => exact ⟨i + 1, by omega, by go_num, by rw [hq.out]; exact HE.out.2, HE.out.1⟩
        case measure => simp [intOf]; omega
      case false =>
      cases ob
      case true =>
        cases ab
        case true =>
          have hq := Lib.hid (NX.out.trans (by rw [PT.out]; simp) : pointsK (l.take (i + 1)) keys = ps)
          go_wp2
          go_roundw
          case rel => exact ⟨i + 1, by omega, by go_num, by rw [hq.out]; exact HE.out.2, HE.out.1⟩
          case measure => simp [intOf]; omega
        case false =>
          have A1 := Lib.hid (sl_at (w7) (ptOpen a) (w7.heap.size) (by simp))
          have HOA := Lib.hid (HE.out.2.alloc (pbx (ptOpen a)))
          have HA := Lib.hid (HE.out.1.alloc HE.out.1.size (pbx (ptOpen a)))
          have fo := Lib.hid (flat_one [ptOpen a])
          have fl : Hid ((flat [ptOpen a]).length = 1 * 14) := Lib.hid (flat_length _)
          have hq : Hid (flat (pointsK (l.take (i + 1)) keys) = flat ps ++ flat [ptOpen a] ∧ (pointsK (l.take (i + 1)) keys).length = ps.length + 1) := Lib.hid (by rw [NX.out, PT.out]; simp [flat_append])
          generalize flat [ptOpen a] = fa at A1 fo fl hq
          unfold pbx ptOpen at A1 HOA HA
          simp only at A1 HOA HA
          go_wp2_with (first
            | (at_builtin
               refine wpList_append_sl _ rfl (.tmp 42) (.tmp 50) 72 rfl w1.heap.size 75 i0' _ 14 128 Tryz.underlying72 hi0 hz0 hz1 hz2 rfl (by decide) _ ps.length _ rfl HOA.out (some ⟨w7.heap.size, 0, none⟩) 1 1 fa rfl fl.out A1.out fo.out m1 y1 HA.out.size (ps.length + 1) rfl ?_
               intro A9 c9' w9 hown9 hb9 hg9 hk9
               have HO9 := Lib.hid hown9
               have HB9 := Lib.hid (HA.out.trans hb9)
               have HG9 := Lib.hid (And.intro hg9 hk9)
               clear hown9 hb9 hg9 hk9))
          go_roundw
          case rel => exact ⟨i + 1, by omega, by go_num, by rw [hq.out.1, hq.out.2]; exact HO9.out, HB9.out⟩
          case measure => simp [intOf]; omega
      case false =>
      by_cases hk : a.k = 17
      case neg =>
        have g1 : (a.k != 17) = true := by simpa using hk
        obtain ⟨z0, z1, z2, z3, z4⟩ := out_at w7 a
        have H8 := Lib.hid (H7.out.alloc H7.out.size (obx a))
        have HE8 := Lib.hid (T0.out _ H8.out).2.2.2
        unfold obx at z0 z1 z2 z3 z4 H8 HE8
        obtain ⟨v0, v1, v2, v3, v4, v5, v6, v7, v8, v9, v10, v11, v12⟩ := (T0.out _ H8.out).1
        have A1 := Lib.hid (sl_at (w7.alloc (obx a)) (ptPlain a) (w7.heap.size + 1) (by simp))
        have HOA := Lib.hid (HE8.out.2.alloc (pbx (ptPlain a)))
        have HA := Lib.hid (HE8.out.1.alloc HE8.out.1.size (pbx (ptPlain a)))
        have fo := Lib.hid (flat_one [ptPlain a])
        have fl : Hid ((flat [ptPlain a]).length = 1 * 14) := Lib.hid (flat_length _)
        have hq : Hid (flat (pointsK (l.take (i + 1)) keys) = flat ps ++ flat [ptPlain a] ∧ (pointsK (l.take (i + 1)) keys).length = ps.length + 1) := Lib.hid (by rw [NX.out, PT.out]; simp [flat_append, hk])
        generalize flat [ptPlain a] = fa at A1 fo fl hq
        unfold pbx ptPlain at A1 HOA HA
        simp only at A1 HOA HA
        unfold obx at A1
        clear hk
        go_wp2_with (first
          | (at_builtin
             refine wpList_append_sl _ rfl (.tmp 69) (.tmp 80) 72 rfl w1.heap.size 75 i0' _ 14 128 Tryz.underlying72 hi0 hz0 hz1 hz2 rfl (by decide) _ ps.length _ rfl HOA.out (some ⟨w7.heap.size + 1, 0, none⟩) 1 1 fa rfl fl.out A1.out fo.out m1 y1 HA.out.size (ps.length + 1) rfl ?_
             intro A9 c9' w9 hown9 hb9 hg9 hk9
             have HO9 := Lib.hid hown9
             have HB9 := Lib.hid (HA.out.trans hb9)
             have HG9 := Lib.hid (And.intro hg9 hk9)
             clear hown9 hb9 hg9 hk9))
        go_roundw
        case rel => exact ⟨i + 1, by omega, by go_num, by rw [hq.out.1, hq.out.2]; exact HO9.out, HB9.out⟩
        case measure => simp [intOf]; omega
      case pos =>
        have g1 : (a.k != 17) = false := by simpa using hk
        have HQ : Hid (pointsK (l.take (i + 1)) keys = ps ++ (ptFirst a :: (if a.is then nears a keys else []))) := Lib.hid (by rw [NX.out, PT.out]; simp [hk])
        have A1 := Lib.hid (sl_at (w7) (ptFirst a) (w7.heap.size) (by simp))
        have HOA := Lib.hid (HE.out.2.alloc (pbx (ptFirst a)))
        have HA := Lib.hid (HE.out.1.alloc HE.out.1.size (pbx (ptFirst a)))
        have fo := Lib.hid (flat_one [ptFirst a])
        have fl : Hid ((flat [ptFirst a]).length = 1 * 14) := Lib.hid (flat_length _)
        have hq : Hid (flat (ps ++ [ptFirst a]) = flat ps ++ flat [ptFirst a]) := Lib.hid (flat_append _ _)
        generalize flat [ptFirst a] = fa at A1 fo fl hq
        unfold pbx ptFirst at A1 HOA HA
        simp only at A1 HOA HA
        clear hk
        go_upto_region 17 with (first
          | (at_builtin
             refine wpList_append_sl _ rfl (.tmp 82) (.tmp 98) 72 rfl w1.heap.size 75 i0' _ 14 128 Tryz.underlying72 hi0 hz0 hz1 hz2 rfl (by decide) _ ps.length _ rfl HOA.out (some ⟨w7.heap.size, 0, none⟩) 1 1 fa rfl fl.out A1.out fo.out m1 y1 HA.out.size (ps.length + 1) rfl ?_
             intro A9 c9' w9 hown9 hb9 hg9 hk9
             have HO9 := Lib.hid hown9
             have HB9 := Lib.hid (HA.out.trans hb9)
             have HG9 := Lib.hid (And.intro hg9 hk9)
             clear hown9 hb9 hg9 hk9))
        have HU : Hid ((Value.slice U ps.length uc).ownBlock ≠ some w0.heap.size) := Lib.hid (fun e => by have := (HO.out.lt _ e).2; omega)
        have HNE : Hid ((Value.slice A9 (ps.length + 1) c9').ownBlock ≠ some w0.heap.size) := Lib.hid (fun e => by
          rcases HG9.out.2 with h | h
          · exact HU.out (h.symm.trans e)
          · have h1 := h.symm.trans e
            simp only [World.size_alloc, Option.some.injEq] at h1
            have h2 := H7.out.size
            rw [World.size_alloc] at h2
            omega)
        have AT9 := Lib.hid ((((T0.out _ H7.out).1).below ((Below.refl w7.heap.size w7).alloc (Nat.le_refl _) _) (Nat.le_refl _)).grown HG9.out.1 HU.out)
        clear HG9 HU
        obtain ⟨R, R0, Rn, Re, Rl⟩ : ∃ R : Nat → List Pt, R 0 = ps ++ [ptFirst a] ∧ (a.is = true → ∀ k (h : k < keys.length), R (k + 1) = R k ++ (if isV keys[k] then [ptNear a keys[k]] else [])) ∧ (∀ k, (a.is = false ∨ k = keys.length) → R k = pointsK (l.take (i + 1)) keys) ∧ (∀ k, k ≤ keys.length → (R k).length ≤ 12 * 25 + 1 + 24) := by
          refine ⟨fun k => ps ++ (ptFirst a :: (if a.is then nears a (keys.take k) else [])), ?_, fun hs k h => ?_, fun k h => ?_, fun k hk => ?_⟩
          · cases a.is <;> simp [nears]
          · simp only [hs, if_true]
            rw [nears_next a h]
            simp
          · show ps ++ (ptFirst a :: (if a.is then nears a (keys.take k) else [])) = _
            rw [HQ.out]
            rcases h with h | h
            · rw [h]; rfl
            · rw [h, List.take_length]
          · have h1 := nears_le a (keys.take k)
            rw [List.length_take] at h1
            show (ps ++ (ptFirst a :: (if a.is then nears a (keys.take k) else []))).length ≤ _
            rw [List.length_append, List.length_cons]
            split
            · omega
            · rw [List.length_nil]; omega
        have RN := Lib.hid Rn
        have RE := Lib.hid Re
        have RL := Lib.hid Rl
        have R0' : Hid (flat (R 0) = flat ps ++ fa ∧ (R 0).length = ps.length + 1) := Lib.hid (by rw [R0]; exact ⟨hq.out, by simp⟩)
        clear Rn Re Rl R0 hq HQ
        go_wp2
        go_loopw [4, 11] (fun sv v wr => ∃ k : Nat, k ≤ keys.length ∧ v = .int .i64 k ∧ wr.ownsRow w1.heap.size 75 14 sv (R k).length (flat (R k)) ∧ sv.ownBlock ≠ some w0.heap.size ∧ At wr w0.heap.size 0 a ∧ Below w1.heap.size w1 wr) (fun _ v _ => keys.length - (intOf v).toNat)
        case atStart => exact ⟨0, Nat.zero_le _, rfl, by rw [R0'.out.1, R0'.out.2]; exact HO9.out, HNE.out, AT9.out, HB9.out⟩
        case round =>
          clear HO9 HNE AT9 HB9 R0' HE H7' H7 HA HOA A1
          obtain ⟨k, hk, rfl, ho, hne, hat, hb⟩ := hrel
          obtain ⟨V, vc, hV⟩ := own_any ho
          subst hV
          have HO9 := Lib.hid ho
          have HNE := Lib.hid hne
          have AT9 := Lib.hid hat
          have HB9 := Lib.hid hb
          clear ho hne hat hb
          obtain ⟨w8, hw8⟩ : ∃ w8, w8 = wr := ⟨_, rfl⟩
          subst hw8
          obtain ⟨x0, x1, x2, x3, x4, x5, x6, x7, x8, x9, x10, x11, x12⟩ := AT9.out
          have k0 : (0 : Int) ≤ (k : Int) := by omega
          by_cases hlk : k < keys.length
          · have k1 : (k : Int) < (keys.length : Int) := by omega
            have t1 : decide ((k : Int) < (keys.length : Int)) = true := decide_eq_true k1
            have t2 : decide (k < keys.length) = true := decide_eq_true hlk
            have n5 : IntKind.i64.wrap ((k : Int) + 1) = (k : Int) + 1 := by rw [IntKind.wrap_i64] <;> omega
            cases hs : a.is
            · have re := Lib.hid (RE.out k (.inl hs))
              rw [hs] at x9
              clear hs
              go_wp2
              first
                | (refine ⟨⟨i + 1, by omega, by go_num, by rw [← re.out]; exact HO9.out, HB9.out⟩, by simp [intOf]; omega⟩)
                | (go_roundw
                   case rel => first | exact ⟨i + 1, by omega, by go_num, by rw [← re.out]; exact HO9.out, HB9.out⟩ | ((repeat apply Exists.intro); exact ⟨⟨i + 1, by omega, by go_num, by rw [← re.out]; exact HO9.out, HB9.out⟩, rfl⟩)
                   case measure => simp [intOf]; omega)
            · obtain ⟨kb', ko, hK, hc⟩ := (S1.out.below HB9.out (Nat.le_refl _)) (by rw [List.length_map]; omega)
              have rn := Lib.hid (RN.out hs k hlk)
              have kc := hc k (.int .i64 keys[k]) (by rw [List.getElem?_map, List.getElem?_eq_getElem hlk]; rfl)
              rw [hs] at x9
              subst hK
              obtain ⟨kb2, ko2, hK2, hc2⟩ := S1.out (by rw [List.length_map]; omega)
              cases hK2
              have kc1 := hc2 k (.int .i64 keys[k]) (by rw [List.getElem?_map, List.getElem?_eq_getElem hlk]; rfl)
              clear hc2
              clear hc hs
              generalize keys[k] = y at kc rn kc1
              have STB : Hid (∀ W, At W w0.heap.size 0 a → Below w1.heap.size w1 W → (W.cell? ⟨w0.heap.size, 2, none⟩ = some (.int .i64 a.u) ∧ W.cell? ⟨w0.heap.size, 5, none⟩ = some (.int .i64 a.era) ∧ W.cell? ⟨w0.heap.size, 6, none⟩ = some (.int .i64 a.fr) ∧ W.cell? ⟨w0.heap.size, 7, none⟩ = some (.int .i64 a.to) ∧ W.cell? ⟨kb', ko + k, none⟩ = some (.int .i64 y))) := Lib.hid fun W h hW => by
                obtain ⟨_, _, h2, _, _, h5, h6, h7, _⟩ := h
                rw [Nat.zero_add] at h2 h5 h6 h7
                exact ⟨h2, h5, h6, h7, (hW.cell (p := ⟨kb', ko + k, none⟩) (World.block_lt_of_cell? _ _ kc1)).trans kc1⟩
              clear kc1
              have rl := RL.out k hk
              have DV := Lib.hid (is_any y w8)
              cases hv : isV y
              · rw [hv] at DV rn
                have rn2 := Lib.hid (show R (k + 1) = R k from by rw [rn.out]; simp)
                clear hv rn rl
                go_wp2_with (go_at_call 18; ((with_reducible refine DV.out.mono ?_); rintro e w9 ⟨rfl, rfl⟩))
                first
                  | (refine ⟨⟨k + 1, by omega, by go_num, by rw [rn2.out]; exact HO9.out, HNE.out, AT9.out, HB9.out⟩, by simp [intOf]; omega⟩)
                  | (go_roundw
                     case rel => first | exact ⟨k + 1, by omega, by go_num, by rw [rn2.out]; exact HO9.out, HNE.out, AT9.out, HB9.out⟩ | ((repeat apply Exists.intro); exact ⟨⟨k + 1, by omega, by go_num, by rw [rn2.out]; exact HO9.out, HNE.out, AT9.out, HB9.out⟩, rfl⟩)
                     case measure => simp [intOf]; omega)
              · rw [hv] at DV rn
                have rn2 : Hid (flat (R (k + 1)) = flat (R k) ++ flat [ptNear a y] ∧ (R (k + 1)).length = (R k).length + 1) := Lib.hid (by rw [rn.out]; simp [flat_append])
                have m3 : (R k).length + 1 ≤ maxLen := by unfold maxLen; omega
                have y3 : ((R k).length + 1) * 128 ≤ 140737488355328 := by omega
                obtain ⟨cb, hcb⟩ : ∃ cb, cb = a.list.contains y := ⟨_, rfl⟩
                have HCB := Lib.hid hcb
                have DN : Hid (∀ q, Calls Tryz.prog 47 #[.slice a.A a.list.length a.cap, .int .i64 y] (w8.drewN q) fun e w' => e = .returned (.bool cb) ∧ w' = w8.drewN q) := Lib.hid fun q => by rw [hcb]; exact (in_any a.A a.cap a.list.length a.list y (w8.drewN q) rfl (HSL.out.below (H1.out.trans ((below_drewN HB9.out q).mono H1.out.size)) (Nat.le_refl _)) LB.out).mono fun e w' h => ⟨h.1, h.2.symm⟩
                clear hcb
                clear hv rn rl
                go_upto_region 22 with (go_at_call 18; ((with_reducible refine DV.out.mono ?_); rintro e w9 ⟨rfl, rfl⟩))
                go_quiet ((go_at_call 47; exact Calls.quiet_of_same (DN.out _)))
                skip
                have HQ1 := Lib.hid (below_drewN HB9.out nq)
                have AQ := Lib.hid (at_drewN AT9.out nq)
                have OQ := Lib.hid (own_drewN HO9.out nq)
                have KQ := Lib.hid (cell_drewN kc nq)
                clear x0 x1 x2 x3 x4 x5 x6 x7 x8 x9 x10 x11 x12 kc DN DV
                generalize w8.drewN nq = wq at HQ1 AQ OQ KQ ⊢
                go_upto_region 23 with fail
                have HD := Lib.hid HQ1.out.drew
                have AD : Hid (At wq.drew w0.heap.size 0 a) := Lib.hid (at_drewN AQ.out 1)
                have OD : Hid (wq.drew.ownsRow w1.heap.size 75 14 (.slice V (R k).length vc) (R k).length (flat (R k))) := Lib.hid (own_drewN OQ.out 1)
                have A1 := Lib.hid (sl_at wq.drew (ptNear a y) wq.drew.heap.size rfl)
                have HOA := Lib.hid (OD.out.alloc (pbx (ptNear a y)))
                have HA := Lib.hid (HD.out.alloc HD.out.size (pbx (ptNear a y)))
                have AA := Lib.hid (AD.out.below ((Below.refl wq.drew.heap.size wq.drew).alloc (Nat.le_refl _) (pbx (ptNear a y))) (Nat.le_refl _))
                have fo := Lib.hid (flat_one [ptNear a y])
                have fl : Hid ((flat [ptNear a y]).length = 1 * 14) := Lib.hid (flat_length _)
                generalize flat [ptNear a y] = fb at A1 fo fl rn2
                unfold pbx ptNear at A1 HOA HA AA
                simp only at A1 HOA HA AA
                rw [← HCB.out] at A1 HOA HA AA
                have hlt1 := Lib.hid (World.block_lt_of_cell? _ _ AA.out.1)
                have SS := Lib.hid (STB.out _ AD.out HD.out)
                have SA := Lib.hid (STB.out _ AA.out HA.out)
                generalize (R k).length = rk at HO9 HNE HOA rn2 m3 y3 OD ⊢
                clear OD AQ OQ KQ HQ1
                go_region_held3 (fun w' => w'.cell? ⟨w0.heap.size, 2, none⟩ = some (.int .i64 a.u) ∧ w'.cell? ⟨w0.heap.size, 5, none⟩ = some (.int .i64 a.era) ∧ w'.cell? ⟨w0.heap.size, 6, none⟩ = some (.int .i64 a.fr) ∧ w'.cell? ⟨w0.heap.size, 7, none⟩ = some (.int .i64 a.to) ∧ w'.cell? ⟨kb', ko + k, none⟩ = some (.int .i64 y)) (first | exact SS.out | exact SA.out | exact STB.out _ ATz.out HBz.out)
                  (first
                  | (rw [if_pos (by rfl)]
                     refine wp_append_sl _ (.tmp 126) (.tmp 144) 72 rfl w1.heap.size 75 i0' _ 14 128 Tryz.underlying72 hi0 hz0 hz1 hz2 rfl (by decide) _ rk _ rfl HOA.out (some ⟨wq.drew.heap.size, 0, none⟩) 1 1 fb rfl fl.out A1.out fo.out m3 y3 HA.out.size (rk + 1) rfl ?_
                     intro Az cz' wz hownz hbz hgz hkz
                     have HOz := Lib.hid hownz
                     have HBz := Lib.hid (HA.out.trans hbz)
                     have ATz := Lib.hid (AA.out.grown hgz HNE.out)
                     have NEz : Hid ((Value.slice Az (rk + 1) cz').ownBlock ≠ some w0.heap.size) := Lib.hid (fun e => by
                       rcases hkz with h | h
                       · exact HNE.out (h.symm.trans e)
                       · have h1 := h.symm.trans e
                         exact absurd (Option.some.inj h1) (Nat.ne_of_gt hlt1.out))
                     clear hownz hbz hgz hkz))
                go_wp2
                first
                  | (refine ⟨⟨k + 1, by omega, by go_num, by rw [rn2.out.1, rn2.out.2]; exact HOz.out, NEz.out, ATz.out, HBz.out⟩, by simp [intOf]; omega⟩)
                  | (go_roundw
                     case rel => first | exact ⟨k + 1, by omega, by go_num, by rw [rn2.out.1, rn2.out.2]; exact HOz.out, NEz.out, ATz.out, HBz.out⟩ | ((repeat apply Exists.intro); exact ⟨⟨k + 1, by omega, by go_num, by rw [rn2.out.1, rn2.out.2]; exact HOz.out, NEz.out, ATz.out, HBz.out⟩, rfl⟩)
                     case measure => simp [intOf]; omega)
          · have t1 : decide ((k : Int) < (keys.length : Int)) = false := decide_eq_false (by omega)
            have t2 : decide (k < keys.length) = false := decide_eq_false hlk
            have re := Lib.hid (RE.out k (.inr (by omega)))
            go_wp2
            first
              | (refine ⟨⟨i + 1, by omega, by go_num, by rw [← re.out]; exact HO9.out, HB9.out⟩, by simp [intOf]; omega⟩)
              | (go_roundw
                 case rel => first | exact ⟨i + 1, by omega, by go_num, by rw [← re.out]; exact HO9.out, HB9.out⟩ | ((repeat apply Exists.intro); exact ⟨⟨i + 1, by omega, by go_num, by rw [← re.out]; exact HO9.out, HB9.out⟩, rfl⟩)
                 case measure => simp [intOf]; omega)
    · obtain rfl : i = n := by omega
      have HE := HO.out
      rw [HN.out, List.take_length] at HE ⊢
      have SL := Lib.hid (own_slk HE)
      have CP := Lib.hid (own_room HE)
      clear HE
      go_wp2
      go_ret
      exact ⟨_, _, rfl, SL.out, H1.out.trans (HB.out.mono H1.out.size), CP.out⟩
end Go.Proofs.YtpdfmfkoopdfgaaGreatDoor.Hs
