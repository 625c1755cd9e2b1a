/- Law 8's shown, ends. -/
import Derived.Test.YtfglpigoljclbaaHPair8
set_option linter.unusedVariables false
set_option linter.unusedSimpArgs false
namespace Go.Proofs.Ytfglpigoljclbaa.H
open Go.RowKit
attribute [local go_sem ↓] Go.wp_at_zero Go.wp_at_succ
variable {w w' a b wr : World} {S T : Nat → Prop} {g gm gB gr k c c' kM kX kI kR kS j D : Nat} {ws ws' : List Int} {m m' : Mch} {n s h t : Int} {L L' : Nat → Nat} {vt vg : Value}

theorem words_nil : Words [] := fun i => by simp

theorem Rd.nil (w : World) (S : Nat → Prop) (k : IntKind) : Rd w S (.slice none 0 0) (us k []) := ⟨none, 0, rfl, Nat.le_refl _, by decide, fun h => by simp [us] at h⟩

/-- A slice's literal reads as it is written. -/
theorem Rd.lit {cs : Array Value} {e : TypeId} {xs : List Int} {N : Nat} (kk : IntKind) (hB : Blk w g cs e) (hc : cs.toList = us kk xs) (hN : N = xs.length) (hm : N ≤ maxLen) (hS : S g) : Rd w S (.slice (some ⟨g, 0, none⟩) N N) (us kk xs) := by
  have hs : cs.size = N := by rw [← Array.length_toList, hc, us_len, hN]
  have := (Own.lit w (n := N) (size := 1) hS hB (by omega) hm).rd
  rwa [hc] at this

set_option maxHeartbeats 4000000 in
theorem shown8_ (w : World) : Calls Try.prog 51 #[] w fun e w' => e = .returned (.bool true) ∧ Fr No w w' := by
  go_enter Try.func51, Try.ntmps51
  go_wp2_with fail
  refine (New_yes (S := No) _ _ [] (Rd.nil _ _ _) (by simp)).mono ?_
  rintro e w1 ⟨gm, rfl, hM1, hf1⟩
  have hM1 := hM1.born (fun _ => 0) 1
  obtain ⟨L1, hL1⟩ : ∃ L1, L1 = re (fun _ => 0) w 1 := ⟨_, rfl⟩
  rw [← hL1] at hM1
  have hO1 : Old L1 w := by rw [hL1]; exact (Old.zero w).ext (ext_re _ _ _) (Nat.le_refl _)
  clear hL1
  go_wp2_with fail
  obtain ⟨wb, hwb⟩ : ∃ wb, wb = w1.alloc (.cells #[.int .u32 4, .int .u32 7] 23) := ⟨_, rfl⟩
  have hf1b : Fr No w1 wb := by rw [hwb]; exact (Fr.refl No w1).alloc _
  have hLit : Rd wb (New w1.heap.size) (.slice (some ⟨w1.heap.size, 0, none⟩) 2 2) (us .u32 [4, 7]) := by rw [hwb]; exact Rd.lit .u32 (blk_new _ _ _) rfl rfl (by decide) (Nat.le_refl _)
  rw [← hwb]
  clear hwb
  refine (ANewTake_ (S := New w1.heap.size) wb L1 2 3 9 0 0 0 1 _ [4, 7] hLit (by decide) (by decide) (by decide) (fun j => by match j with | 0 => decide | 1 => decide | j + 2 => simp)).mono ?_
  rintro e w2 ⟨g, rfl, hA2, hg2, hf2⟩
  have hM2 := (hM1.no hf1b).lab (S := fun _ => False) (FrL.ofNo hf2) (ext_re L1 wb 2) id
  have hfw2 := (hf1.then hf1b).then hf2
  have hO2 : Old (re L1 wb 2) w := hO1.ext (ext_re _ _ _) (hf1.then hf1b).size
  go_wp2_with fail
  refine (AStepTake _ _ hA2 (by decide) (by decide) (by decide) hM2 (by omega) words_nil rfl (by decide)).mono ?_
  rintro e w3 ⟨rfl, L3, hE3, hA3, hM3, hf3⟩
  have hfw3 := hO2.fr hfw2 hf3 (by decide)
  rw [show (astep 9 0 0 ⟨false, bud 1, [4, 7], none, 0, 0, 0⟩ [] 0) = (⟨false, 1, [4], none, 1, 7, 0⟩, [], 0) from by simp [astep, bud]] at hA3 hM3 ⊢
  go_wp2_with fail
  refine (ShelfTake _ _ hA3 (by decide)).mono ?_
  rintro e w4 ⟨v, rfl, hO4, hf4⟩
  obtain ⟨A4, c4, rfl, _, _⟩ := hO4.slice
  go_wp2_with fail
  have hLit4 : Rd (w4.alloc (.cells #[.int .u32 4] 23)) (New w4.heap.size) (.slice (some ⟨w4.heap.size, 0, none⟩) 1 1) (us .u32 [4]) := Rd.lit .u32 (blk_new _ _ _) rfl rfl (by decide) (Nat.le_refl _)
  refine (Same32 _ _ _ _ _ [4] (hO4.rd.keepNo ((Fr.refl No w4).alloc _)) hLit4).mono ?_
  rintro e w5 ⟨rfl, hf5⟩
  go_wp2_with fail
  go_ret
  exact ⟨rfl, ((hfw3.then hf4).alloc _).then hf5⟩

/-- N machines' steps one behind the other, with nothing on a shelf. -/
structure RunA (n : Int) (N : Nat) (qs : Nat → Arn) (wss : Nat → List Int) (st i : Int) : Prop where
  go : ∀ j, j < N → ∀ c, astep n 0 0 (qs j) (wss j) c = (qs (j + 1), wss (j + 1), c + 1)
  runs : ∀ j, j < N → (qs j).st = 0
  last : (qs N).st = st
  told : (qs N).i = i
  words : ∀ j, j ≤ N → Words (wss j)
  none : ∀ j, j ≤ N → (qs j).shelf = []

theorem astep_give (n s h : Int) (A : Arn) (ws : List Int) (k : Nat) : (astep n s h A ws k).1.give = A.give := by
  obtain ⟨h1, _, _⟩ := ago_keeps n s h A ws k
  unfold astep
  split
  · simp only
    split <;> exact h1
  · split
    · rfl
    · exact h1
theorem RunA.give {n st i : Int} {N : Nat} {qs : Nat → Arn} {wss : Nat → List Int} (h : RunA n N qs wss st i) : ∀ j, j ≤ N → (qs j).give = (qs 0).give := by
  intro j
  induction j with
  | zero => intro _; rfl
  | succ j ih =>
    intro hj
    have h1 := astep_give n 0 0 (qs j) (wss j) 0
    rw [h.go j (by omega) 0] at h1
    exact h1.trans (ih (by omega))

/-- What machines leave that go on by themselves. -/
def ALft (L : Nat → Nat) (w : World) (kM kX kI g gm : Nat) (n s h t : Int) (A : Arn) (ws : List Int) (c : Nat) (w' : World) : Prop :=
  ∃ L', Ext L L' w ∧ ArnAt w' L' kX kI g n s h t A ∧ MemAt w' (Lab L' w' kM) gm ws c ∧ FrL L (fun k => k = kM ∨ k = kX ∨ k = kI) w w'

theorem ALft.after {L1 : Nat → Nat} {w1 : World} {A : Arn} {v : Value} (hE : Ext L L1 w) (hf : FrL L (fun k => k = kM ∨ k = kX ∨ k = kI) w w1) (hL : ALeft L1 w1 kM kX kI kS g gm n s h t A ws c v w') : ALft L w kM kX kI g gm n s h t A ws c w' := by
  obtain ⟨L2, hE2, hX, hM, _, hf2⟩ := hL
  exact ⟨L2, hE.trans hE2 hf.size, hX, hM, hf.then hf2 hE⟩
theorem ALft.pre0 {w0 : World} {L0 : Nat → Nat} {A : Arn} (hf : Fr No w w0) (hE : Ext L L0 w) (hL : ALft L0 w0 kM kX kI g gm n s h t A ws c w') : ALft L w kM kX kI g gm n s h t A ws c w' := by
  obtain ⟨L1, hE1, hX, hM, hf1⟩ := hL
  exact ⟨L1, hE.trans hE1 hf.size, hX, hM, (FrL.ofNo hf).then hf1 hE⟩
theorem ALft.fr {A : Arn} (hL : ALft L w kM kX kI g gm n s h t A ws c w') : FrL L (fun k => k = kM ∨ k = kX ∨ k = kI) w w' := by
  obtain ⟨_, _, _, _, hf⟩ := hL
  exact hf

set_option maxHeartbeats 4000000 in
theorem ends8p (w : World) (N : Nat) (qs : Nat → Arn) (wss : Nat → List Int) (st i : Int) (vt vg vr : Value) (hv : APairOf (qs 0).give g vt vg) (H : ArnAt w L 2 3 g n 0 0 t (qs 0))
    (hM : MemAt w (Lab L w 1) gm (wss 0) c) (hn : c ≤ 900000) (hN : N ≤ 1000) (hN0 : 0 < N) (hR : RunA n N qs wss st i) (hst : ¬ st = 0) (hst6 : ¬ st = 6) :
    Calls Try.prog 58 #[.agg #[vt, vg, vr], .pointer (some ⟨gm, 0, none⟩), .int .i64 st, .int .u32 i, .int .i64 N] w fun e w' => e = .returned (.bool true) ∧ ALft L w 1 2 3 g gm n 0 0 t (qs N) (wss N) (c + N) w' := by
  have HR := Lib.hid hR
  have HV := Lib.hid (fun j (hj : j ≤ N) => show APairOf (qs j).give g vt vg by rw [hR.give j hj]; exact hv)
  have HS := Lib.hid (And.intro hst hst6)
  obtain ⟨gb, hgb⟩ : ∃ gb, gb = w.heap.size := ⟨_, rfl⟩
  obtain ⟨wb, hwb⟩ : ∃ wb, wb = w.alloc (.cells #[vt, vg, vr] 90) := ⟨_, rfl⟩
  have hfA : Fr No w wb := by rw [hwb]; exact (Fr.refl No w).alloc _
  have hBb : Blk wb gb #[vt, vg, vr] 90 := by rw [hwb]; exact blk_at _ hgb
  obtain ⟨L0, hL0⟩ : ∃ L0, L0 = re L w 0 := ⟨_, rfl⟩
  have hE0 : Ext L L0 w := by rw [hL0]; exact ext_re _ _ _
  have hgL : L0 gb = 0 := by rw [hL0, hgb, re, if_neg (by omega)]
  have hgM : ¬ (L0 gb = 1 ∨ L0 gb = 2 ∨ L0 gb = 3) := by rw [hgL]; omega
  have hInv : ALft L0 wb 1 2 3 g gm n 0 0 t (qs 0) (wss 0) c wb := ⟨L0, Ext.refl _ _, H.lab (q := fun _ => False) (FrL.ofNo hfA) hE0 id id, hM.lab (S := fun _ => False) (FrL.ofNo hfA) hE0 id, Fr.refl _ _⟩
  have HA := Lib.hid (And.intro hfA hE0)
  have HW := Lib.hid hwb
  have HG := Lib.hid hgb
  clear H hM hR hv hL0 hfA hE0 hgL hst hst6
  go_enter Try.func58, Try.ntmps58
  go_wp2_with fail
  rw [← hwb, ← hgb]
  clear hwb hgb
  go_loopw [11] (fun v11 wr => ∃ j : Nat, ∃ d : Nat, j ≤ N ∧ Hid (d = c + j) ∧ v11 = .int .i64 ((j : Int) + 1) ∧ ALft L0 wb 1 2 3 g gm n 0 0 t (qs j) (wss j) d wr) (fun v11 _ => N + 1 - (intOf v11).toNat)
  case atStart => exact ⟨0, c, by omega, Lib.hid rfl, rfl, hInv⟩
  case round =>
    clear hInv
    obtain ⟨j, d, hj, HD, rfl, hL⟩ := hrel
    have hd : d ≤ 901000 := by have := HD.out; omega
    have hB := Fr.keep hL.fr hBb hgM
    have C := hB.cells
    have lB := hB.lt
    have hL' := hL
    obtain ⟨L1, hE1, hX1, hM1, hf1⟩ := hL'
    have hls : (qs j).shelf.length ≤ 900000 := by rw [HR.out.none j hj]; simp
    by_cases hlt : j < N
    · have hj1 : (j : Int) + 1 ≤ N := by omega
      have hk2 : (((d + 1 : Nat) : Int) != (d : Int) + 1) = false := by simp
      have hne := HR.out.none (j + 1) (by omega)
      go_wp2_with fail
      refine (Count_ _ hM1).mono ?_
      rintro e w1 ⟨rfl, rfl⟩
      go_wp2_with fail
      refine ((pstep8_ (kS := 4) _ (qs j) vt vg vr (HV.out j (by omega)) hX1 (by decide) (by decide) (by decide) (by decide) (by decide) (by decide) hM1 (by omega) (HR.out.words j (by omega)) hls).mono fun e w' h => h.to (HR.out.go j hlt d)).mono ?_
      by_cases hl : j + 1 < N
      · have hs := HR.out.runs (j + 1) hl
        rw [hs]
        clear hs
        rintro e w1 ⟨v, rfl, hL1⟩
        have hL2 := ALft.after hE1 hf1 hL1
        obtain ⟨L2, hE2, hX2, hM2, hO2, hf2⟩ := hL1
        rw [hne] at hO2
        obtain ⟨A2, c2, rfl, _, _⟩ := hO2.slice
        clear hO2 hne
        have hl1 : (j : Int) + 1 < N := by omega
        go_wp2_with fail
        refine (Count_ _ hM2).mono ?_
        rintro e w2 ⟨rfl, rfl⟩
        go_wp2_with fail
        go_roundw
        case rel => exact ⟨j + 1, d + 1, by omega, Lib.hid (by have := HD.out; omega), by go_num, hL2⟩
        case measure => simp [intOf]; omega
      · have hl2 : j + 1 = N := by omega
        have hs : (qs (j + 1)).st = st := by rw [hl2]; exact HR.out.last
        have ht : (qs (j + 1)).i = i := by rw [hl2]; exact HR.out.told
        rw [hs, ht]
        clear hs ht
        rintro e w1 ⟨v, rfl, hL1⟩
        have hL2 := ALft.after hE1 hf1 hL1
        obtain ⟨L2, hE2, hX2, hM2, hO2, hf2⟩ := hL1
        rw [hne] at hO2
        obtain ⟨A2, c2, rfl, _, _⟩ := hO2.slice
        clear hO2 hne
        have hl1 : ¬ (j : Int) + 1 < N := by omega
        have hl3 : (((j : Int) + 1) == N) = true := by rw [beq_iff_eq]; omega
        have hl4 : ((N : Int) ≤ (j : Int) + 1) := by omega
        have hs0 : (st == 0) = false := beq_eq_false_iff_ne.2 HS.out.1
        clear hl2
        go_wp2_with fail
        refine (Count_ _ hM2).mono ?_
        rintro e w2 ⟨rfl, rfl⟩
        go_wp2_with fail
        go_roundw
        case rel => exact ⟨j + 1, d + 1, by omega, Lib.hid (by have := HD.out; omega), by go_num, hL2⟩
        case measure => simp [intOf]; omega
    · have hjN : j = N := by omega
      have hj1 : ¬ (j : Int) + 1 ≤ N := by omega
      have hj2 : (N : Int) < (j : Int) + 1 := by omega
      have hs : (qs j).st = st := by rw [hjN]; exact HR.out.last
      have ht : (qs j).i = i := by rw [hjN]; exact HR.out.told
      have HE := Lib.hid hjN
      have K := Lib.hid ((pstep8_ (kS := 4) wr (qs j) vt vg vr (HV.out j (by omega)) hX1 (by decide) (by decide) (by decide) (by decide) (by decide) (by decide) hM1 (by omega) (HR.out.words j (by omega)) hls).mono fun e w' h => h.to (astep_end (by rw [hs]; exact HS.out.1) (by rw [hs]; exact HS.out.2)))
      rw [hs, ht] at K
      clear hs ht hjN
      go_wp2_with fail
      refine (Count_ _ hM1).mono ?_
      rintro e w1 ⟨rfl, rfl⟩
      go_wp2_with fail
      refine K.out.mono ?_
      rintro e w1 ⟨v, rfl, hL1⟩
      have hL2 := ALft.after hE1 hf1 hL1
      obtain ⟨L2, hE2, hX2, hM2, hO2, hf2⟩ := hL1
      obtain ⟨A2, c2, rfl, _, _⟩ := hO2.slice
      clear hO2
      go_wp2_with fail
      refine (Count_ _ hM2).mono ?_
      rintro e w2 ⟨rfl, rfl⟩
      go_wp2_with fail
      go_ret
      have e1 := HE.out
      have e2 := HD.out
      subst e1 e2
      exact ⟨rfl, ALft.pre0 HA.out.1 HA.out.2 hL2⟩
end Go.Proofs.Ytfglpigoljclbaa.H
