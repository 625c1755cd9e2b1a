/- Law 7's shown, and ends: a machine that goes alone. -/
import Derived.Test.YtfglpigoljclbaaHPair7
set_option linter.unusedVariables false
set_option linter.unusedSimpArgs false
namespace Go.Proofs.Ytfglpigoljclbaa.H
open Go.RowKit
attribute [local go_sem ↓] Go.wp_at_zero Go.wp_at_succ
variable {w w' a b : World} {S T : Nat → Prop} {g gm k c c' kM kX : Nat} {ws ws' : List Int} {m m' : Mch} {n s h t : Int} {L L' : Nat → Nat}

theorem ok200 : cfgOk 2 0 0 := by unfold cfgOk; omega

set_option maxHeartbeats 4000000 in
theorem shown7_ (w : World) : Calls Try.prog 34 #[] w fun e w' => e = .returned (.bool true) ∧ Fr No w w' := by
  have hpl := fresh_pl (n := 2) (t := 0) (by omega) (by omega) (by omega) (by omega)
  obtain ⟨W0, hW0⟩ : ∃ W0, W0 = freshL 2 0 0 0 := ⟨_, rfl⟩
  have hw1 : W0.getD 1 0 = 1 := by rw [hW0, fresh_1 (by omega)]; rfl
  have hw0 : W0.getD 0 0 = 0 := by rw [hW0, fresh_0 (by omega)]; rfl
  have hlen : W0.length = 6 := by have := hpl.len; rw [← hW0] at this; omega
  rw [← hW0] at hpl
  obtain ⟨m1, ws1, m2, ws2, m3, r1, s1, r2, s2, r3, s3, i3, o1, o2, hws1, hws2⟩ := three_take (p := 1) (i := 1) hpl (.inr rfl) hw1 (by decide) (by omega) (by omega)
  obtain ⟨W3, hW3⟩ : ∃ W3, W3 = W0.set (1 : Int).toNat (nextWord 1 (W0.getD (2 * 1 : Int).toNat 0 % 4294967296)) := ⟨_, rfl⟩
  rw [← hW3] at r3
  have hpl3 : Pl 2 W3 := by
    rw [hW3]
    have := nextWord_in 1 (W0.getD (2 * 1 : Int).toNat 0 % 4294967296) (by omega) (by omega)
    exact hpl.set _ _ this.1 this.2
  have hv3 : W3.getD (0 : Int).toNat 0 = 0 := by
    rw [hW3, getD_set _ _ _ _ (by rw [hlen]; decide), if_neg (by decide)]
    exact hw0
  have r4 := fun c => mgo_t0_none (x := 0) (y := 0) (z := 0) (c := c) hpl3 (p := 0) (.inl rfl) hv3 (by decide)
  have HR := Lib.hid (And.intro r1 (And.intro r2 (And.intro r3 (And.intro r4 (And.intro s1 (And.intro s2 (And.intro s3 (And.intro i3 hlen))))))))
  have HW := Lib.hid hW0
  clear r1 r2 r3 r4 s1 s2 s3 i3 hlen hv3 hW3 hw1 hw0 hW0
  go_enter Try.func34, Try.ntmps34
  go_wp2_with fail
  refine (Fresh_N _ 2 0 0 0 6 (by omega) ok200 (by omega) (by omega)).mono ?_
  rintro e w1 ⟨gw, cw, rfl, hO1, hf1⟩
  rw [← HW.out] at hO1
  have hB1 := hf1.keepNo (blk_at w (cs := #[.int .i64 2, .int .i64 0, .int .i64 0, .int .u32 0]) (t := 25) rfl)
  have hfw1 : Fr No w w1 := ((Fr.refl No w).alloc _).then hf1
  clear hf1
  go_wp2_with fail
  refine (New_yes _ _ W0 hO1.rd (by have := HR.out.2.2.2.2.2.2.2.2; omega)).mono ?_
  rintro e w2 ⟨gm, rfl, hM2, hf2⟩
  have hM2 := hM2.born (fun _ => 0) 1
  have hB2 := hf2.keepNo hB1
  have hfw2 := hfw1.then hf2
  have C2 := hB2.cells
  have L2 := hB2.lt
  obtain ⟨L1, hL1⟩ : ∃ L1, L1 = re (fun _ => 0) w1 1 := ⟨_, rfl⟩
  rw [← hL1] at hM2
  have hO1' : Old L1 w := by rw [hL1]; exact (Old.zero w).ext (ext_re _ _ _) hfw1.size
  clear hf2 hB1 hfw1 hO1 hL1
  go_wp2_with fail
  refine (NewTake_ _ 2 0 0 0 1).mono ?_
  rintro e w3 ⟨gt, rfl, hT3, hf3⟩
  have hT3 := hT3.born L1 2
  have hM3 := hM2.lab (S := fun _ => False) (FrL.ofNo hf3) (ext_re L1 w2 2) id
  have hB3 := hf3.keepNo hB2
  have hfw3 := hfw2.then hf3
  have C3 := hB3.cells
  have L3 := hB3.lt
  clear C2 L2 hB2 hM2 hf3
  obtain ⟨L2, hL2⟩ : ∃ L2, L2 = re L1 w2 2 := ⟨_, rfl⟩
  rw [← hL2] at hM3 hT3
  have hO2' : Old L2 w := by rw [hL2]; exact hO1'.ext (ext_re _ _ _) hfw2.size
  clear hL2
  go_wp2_with fail
  refine (NewTake_ _ 2 0 0 0 0).mono ?_
  rintro e w4 ⟨gu, rfl, hU4, hf4⟩
  have hU4 := hU4.born L2 3
  have hM4 := hM3.lab (S := fun _ => False) (FrL.ofNo hf4) (ext_re L2 w3 3) id
  have hT4 := hT3.lab (S := fun _ => False) (FrL.ofNo hf4) (ext_re L2 w3 3) id
  have hfw4 := hfw3.then hf4
  clear C3 L3 hB3 hM3 hT3 hf4 hfw2
  obtain ⟨L3, hL3⟩ : ∃ L3, L3 = re L2 w3 3 := ⟨_, rfl⟩
  rw [← hL3] at hM4 hT4 hU4
  have hO3' : Old L3 w := by rw [hL3]; exact hO2'.ext (ext_re _ _ _) hfw3.size
  clear hL3
  go_wp2_with fail
  refine ((StepTake _ hT4 (by decide) hM4 (by omega) hpl.words).mono fun e w' h => h.to (HR.out.1 0) HR.out.2.2.2.2.1 (told_run HR.out.2.2.2.2.1)).mono ?_
  rintro e w5 ⟨rfl, L5, hE5, hT5, hM5, hf5⟩
  have hU5 := hU4.lab hf5 hE5 (by decide)
  go_wp2_with fail
  refine ((StepTake _ hT5 (by decide) hM5 (by omega) hws1).mono fun e w' h => h.to (HR.out.2.1 1) HR.out.2.2.2.2.2.1 (told_run HR.out.2.2.2.2.2.1)).mono ?_
  rintro e w6 ⟨rfl, L6, hE6, hT6, hM6, hf6⟩
  have hU6 := hU5.lab hf6 hE6 (by decide)
  go_wp2_with fail
  refine ((StepTake _ hT6 (by decide) hM6 (by omega) hws2).mono fun e w' h => h.to (HR.out.2.2.1 2) HR.out.2.2.2.2.2.2.1 ((told_done HR.out.2.2.2.2.2.2.1).trans HR.out.2.2.2.2.2.2.2.1)).mono ?_
  rintro e w7 ⟨rfl, L7, hE7, hT7, hM7, hf7⟩
  have hU7 := hU6.lab hf7 hE7 (by decide)
  go_wp2_with fail
  refine ((StepTake _ hU7 (by decide) hM7 (by omega) hpl3.words).mono fun e w' h => h.to (HR.out.2.2.2.1 3) rfl rfl).mono ?_
  rintro e w8 ⟨rfl, L8, hE8, hT8, hM8, hf8⟩
  go_wp2_with fail
  go_ret
  have g5 := hO3'.fr hfw4 hf5 (by decide)
  have o5 := hO3'.ext hE5 hfw4.size
  have g6 := o5.fr g5 hf6 (by decide)
  have o6 := o5.ext hE6 g5.size
  have g7 := o6.fr g6 hf7 (by decide)
  have o7 := o6.ext hE7 g6.size
  exact ⟨rfl, o7.fr g7 hf8 (by decide)⟩

/-- N machines' steps one behind the other, the last one Done, of node i. -/
structure RunN (n : Int) (N : Nat) (ms : Nat → Mch) (wss : Nat → List Int) (st i : Int) : Prop where
  go : ∀ j, j < N → ∀ c, mgo n 0 0 (ms j) (wss j) c = (ms (j + 1), wss (j + 1), c + 1)
  runs : ∀ j, j < N → (ms j).st = 0
  last : (ms N).st = st
  told : (ms N).told = i
  words : ∀ j, j ≤ N → Words (wss j)

theorem Three.run {n i : Int} {m0 : Mch} {ws ws3 : List Int} (h : Three n m0 ws i ws3) (h0 : m0.st = 0) (hw : Words ws) (hw3 : Words ws3) : ∃ ms wss, RunN n 3 ms wss 1 i ∧ ms 0 = m0 ∧ wss 0 = ws ∧ wss 3 = ws3 := by
  obtain ⟨m1, ws1, m2, ws2, m3, r1, s1, r2, s2, r3, s3, i3, o1, o2, hws1, hws2⟩ := h
  refine ⟨fun j => match j with | 0 => m0 | 1 => m1 | 2 => m2 | _ => m3, fun j => match j with | 0 => ws | 1 => ws1 | 2 => ws2 | _ => ws3, ⟨fun j hj c => ?_, fun j hj => ?_, s3, (told_done s3).trans i3, fun j hj => ?_⟩, rfl, rfl, rfl⟩
  · obtain rfl | rfl | rfl : j = 0 ∨ j = 1 ∨ j = 2 := by omega
    · exact r1 c
    · exact r2 c
    · exact r3 c
  · obtain rfl | rfl | rfl : j = 0 ∨ j = 1 ∨ j = 2 := by omega
    · exact h0
    · exact s1
    · exact s2
  · obtain rfl | rfl | rfl | rfl : j = 0 ∨ j = 1 ∨ j = 2 ∨ j = 3 := by omega
    · exact hw
    · exact hws1
    · exact hws2
    · exact hw3

theorem Left.pre0 {w0 : World} {L0 : Nat → Nat} (hf : Fr No w w0) (hE : Ext L L0 w) (hL : Left L0 w0 kM kX g gm n s h t m ws c w') : Left L w kM kX g gm n s h t m ws c w' := by
  obtain ⟨L1, hE1, hX, hM, hf1⟩ := hL
  exact ⟨L1, hE.trans hE1 hf.size, hX, hM, (FrL.ofNo hf).then hf1 hE⟩
theorem Left.no (hL : Left L w kM kX g gm n s h t m ws c a) (hf : Fr No a b) : Left L w kM kX g gm n s h t m ws c b := by
  obtain ⟨L1, hE1, hX, hM, hf1⟩ := hL
  exact ⟨L1, hE1, hX.no hf, hM.no hf, hf1.then (FrL.ofNo hf) hE1⟩
theorem Left.fr (hL : Left L w kM kX g gm n s h t m ws c w') : FrL L (fun k => k = kM ∨ k = kX) w w' := by
  obtain ⟨_, _, _, _, hf⟩ := hL
  exact hf

theorem Left.after {L1 : Nat → Nat} {w1 : World} (hE : Ext L L1 w) (hf : FrL L (fun k => k = kM ∨ k = kX) w w1) (hL : Left L1 w1 kM kX g gm n s h t m ws c w') : Left L w kM kX g gm n s h t m ws c w' := by
  obtain ⟨L2, hE2, hX, hM, hf2⟩ := hL
  exact ⟨L2, hE.trans hE2 hf.size, hX, hM, hf.then hf2 hE⟩

theorem mgo_give (n s h : Int) (m : Mch) (ws : List Int) (k : Nat) : (mgo n s h m ws k).1.give = m.give := by
  unfold mgo mstep
  simp only
  repeat' split
  all_goals rfl

theorem RunN.give {n st i : Int} {N : Nat} {ms : Nat → Mch} {wss : Nat → List Int} (h : RunN n N ms wss st i) : ∀ j, j ≤ N → (ms j).give = (ms 0).give := by
  intro j
  induction j with
  | zero => intro _; rfl
  | succ j ih =>
    intro hj
    have h1 := mgo_give n 0 0 (ms j) (wss j) 0
    rw [h.go j (by omega) 0] at h1
    exact h1.trans (ih (by omega))

theorem PairOf.to {vt vg : Value} (h : PairOf m g vt vg) (he : m'.give = m.give) : PairOf m' g vt vg := by
  unfold PairOf at *
  rw [he]
  exact h

set_option maxHeartbeats 4000000 in
theorem ends7_ (w : World) (N : Nat) (ms : Nat → Mch) (wss : Nat → List Int) (i : Int) (vt vg vr : Value) (hv : PairOf (ms 0) g vt vg) (H : MchAt w (Lab L w kX) g n 0 0 t (ms 0)) (hk : kX ≠ kM) (hkM : ¬ kM = 0) (hkX : ¬ kX = 0)
    (hM : MemAt w (Lab L w kM) gm (wss 0) c) (hn : c ≤ 900000) (hN : N ≤ 1000) (hR : RunN n N ms wss 1 i) :
    Calls Try.prog 46 #[.agg #[vt, vg, vr], .pointer (some ⟨gm, 0, none⟩), .int .u32 i, .int .i64 N] w fun e w' => e = .returned (.bool true) ∧ Left L w kM kX g gm n 0 0 t (ms N) (wss N) (c + N) w' := by
  have HR := Lib.hid hR
  have HV := Lib.hid (fun j hj => hv.to (hR.give j hj))
  obtain ⟨gb, hgb⟩ : ∃ gb, gb = w.heap.size := ⟨_, rfl⟩
  obtain ⟨wb, hwb⟩ : ∃ wb, wb = w.alloc (.cells #[vt, vg, vr] 62) := ⟨_, rfl⟩
  have hfA : Fr No w wb := by rw [hwb]; exact (Fr.refl No w).alloc _
  have hBb : Blk wb gb #[vt, vg, vr] 62 := by rw [hwb]; exact blk_at _ hgb
  obtain ⟨L0, hL0⟩ : ∃ L0, L0 = re L w 0 := ⟨_, rfl⟩
  have hE0 : Ext L L0 w := by rw [hL0]; exact ext_re _ _ _
  have hgL : L0 gb = 0 := by rw [hL0, hgb, re, if_neg (by omega)]
  have hgM : ¬ (L0 gb = kM ∨ L0 gb = kX) := by rw [hgL]; omega
  have hInv : Left L0 wb kM kX g gm n 0 0 t (ms 0) (wss 0) c wb := ⟨L0, Ext.refl _ _, H.lab (S := fun _ => False) (FrL.ofNo hfA) hE0 id, hM.lab (S := fun _ => False) (FrL.ofNo hfA) hE0 id, Fr.refl _ _⟩
  have HA := Lib.hid (And.intro hfA hE0)
  have HW := Lib.hid hwb
  have HG := Lib.hid hgb
  clear H hM hR hv hL0 hfA hE0 hgL
  go_enter Try.func46, Try.ntmps46
  go_wp2_with fail
  rw [← hwb, ← hgb]
  clear hwb hgb
  go_loopw [9] (fun v9 wr => ∃ j : Nat, ∃ d : Nat, j ≤ N ∧ Hid (d = c + j) ∧ v9 = .int .i64 ((j : Int) + 1) ∧ Left L0 wb kM kX g gm n 0 0 t (ms j) (wss j) d wr) (fun v9 _ => N + 1 - (intOf v9).toNat)
  case atStart => exact ⟨0, c, by omega, Lib.hid rfl, rfl, hInv⟩
  case round =>
    clear hInv
    obtain ⟨j, d, hj, HD, rfl, hL⟩ := hrel
    have hd : d ≤ 901000 := by have := HD.out; omega
    have hB := Fr.keep hL.fr hBb hgM
    have C := hB.cells
    have hL' := hL
    obtain ⟨L1, hE1, hX1, hM1, hf1⟩ := hL'
    by_cases hlt : j < N
    · have hj1 : (j : Int) + 1 ≤ N := by omega
      have hk2 : (((d + 1 : Nat) : Int) != (d : Int) + 1) = false := by simp
      go_wp2_with fail
      refine (Count_ _ hM1).mono ?_
      rintro e w1 ⟨rfl, rfl⟩
      go_wp2_with fail
      by_cases hl : j + 1 < N
      · have hs := HR.out.runs (j + 1) hl
        refine ((pstep_ _ vt vg vr (HV.out j (by omega)) hX1 hk hM1 (by omega) (HR.out.words j (by omega))).mono fun e w' h => h.to (HR.out.go j hlt d) hs (told_run hs)).mono ?_
        clear hs
        rintro e w1 ⟨rfl, hL1⟩
        have hL2 := Left.after hE1 hf1 hL1
        obtain ⟨L2, hE2, hX2, hM2, hf2⟩ := hL1
        have hl1 : (j : Int) + 1 < N := by omega
        go_wp2_with fail
        refine (Count_ _ hM2).mono ?_
        rintro e w2 ⟨rfl, rfl⟩
        go_wp2_with fail
        go_roundw
        case rel => exact ⟨j + 1, d + 1, by omega, Lib.hid (by have := HD.out; omega), by go_num, hL2⟩
        case measure => simp [intOf]; omega
      · have hl2 : j + 1 = N := by omega
        have hs : (ms (j + 1)).st = 1 := by rw [hl2]; exact HR.out.last
        have ht : (ms (j + 1)).told = i := by rw [hl2]; exact HR.out.told
        refine ((pstep_ _ vt vg vr (HV.out j (by omega)) hX1 hk hM1 (by omega) (HR.out.words j (by omega))).mono fun e w' h => h.to (HR.out.go j hlt d) hs ht).mono ?_
        clear hs ht
        rintro e w1 ⟨rfl, hL1⟩
        have hL2 := Left.after hE1 hf1 hL1
        obtain ⟨L2, hE2, hX2, hM2, hf2⟩ := hL1
        have hl1 : ¬ (j : Int) + 1 < N := by omega
        have hl3 : (((j : Int) + 1) == N) = true := by rw [beq_iff_eq]; omega
        have hl4 : ((N : Int) ≤ (j : Int) + 1) := by omega
        clear hl2
        go_wp2_with fail
        refine (Count_ _ hM2).mono ?_
        rintro e w2 ⟨rfl, rfl⟩
        go_wp2_with fail
        go_roundw
        case rel => exact ⟨j + 1, d + 1, by omega, Lib.hid (by have := HD.out; omega), by go_num, hL2⟩
        case measure => simp [intOf]; omega
    · have hjN : j = N := by omega
      have hj1 : ¬ (j : Int) + 1 ≤ N := by omega
      have hj2 : (N : Int) < (j : Int) + 1 := by omega
      have hs : (ms j).st = 1 := by rw [hjN]; exact HR.out.last
      have ht : (ms j).told = i := by rw [hjN]; exact HR.out.told
      have hst : ¬ (ms j).st = 0 := by omega
      have HE := Lib.hid hjN
      have K := Lib.hid ((pstep_ wr vt vg vr (HV.out j (by omega)) hX1 hk hM1 (by omega) (HR.out.words j (by omega))).mono fun e w' h => h.to (mgo_end hst) hs ht)
      clear hs ht hst hjN
      go_wp2_with fail
      refine (Count_ _ hM1).mono ?_
      rintro e w1 ⟨rfl, rfl⟩
      go_wp2_with fail
      refine K.out.mono ?_
      rintro e w1 ⟨rfl, hL1⟩
      have hL2 := Left.after hE1 hf1 hL1
      obtain ⟨L2, hE2, hX2, hM2, hf2⟩ := hL1
      go_wp2_with fail
      refine (Count_ _ hM2).mono ?_
      rintro e w2 ⟨rfl, rfl⟩
      go_wp2_with fail
      go_ret
      have e1 := HE.out
      have e2 := HD.out
      subst e1 e2
      exact ⟨rfl, Left.pre0 HA.out.1 HA.out.2 hL2⟩
end Go.Proofs.Ytfglpigoljclbaa.H
