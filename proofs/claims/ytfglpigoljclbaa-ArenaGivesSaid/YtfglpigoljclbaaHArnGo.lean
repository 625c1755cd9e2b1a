/- arena: tries.goOn. -/
import Derived.Test.YtfglpigoljclbaaHArn
set_option linter.unusedVariables false
set_option linter.unusedSimpArgs false
namespace Go.Proofs.Ytfglpigoljclbaa.H
open Go.RowKit
attribute [local go_sem ↓] Go.wp_at_zero Go.wp_at_succ
variable {w w' a b wr : World} {S T : Nat → Prop} {g gm gB gr k c c' kM kX kI j D : Nat} {ws ws' : List Int} {m m' : Mch} {n s h t : Int} {L L' : Nat → Nat}

/-- What a machine's step tells and does. -/
def ArnPost (L : Nat → Nat) (w : World) (kM kX kI g gm : Nat) (n s h t : Int) (r : Arn × List Int × Nat) (e : Ending) (w' : World) : Prop :=
  e = .returned (.tuple #[.int .i64 r.1.st, .int .u32 r.1.i]) ∧ ∃ L', Ext L L' w ∧ ArnAt w' L' kX kI g n s h t r.1 ∧ MemAt w' (Lab L' w' kM) gm r.2.1 r.2.2 ∧ FrL L (fun k => k = kM ∨ k = kX ∨ k = kI) w w'

/-- Behind the choice of a try: the machine has one. -/
def GoMid (L : Nat → Nat) (w wx : World) (kM kX kI g gm : Nat) (n s h t : Int) (A : Arn) (m : Mch) (ws : List Int) (c : Nat) : Prop :=
  ∃ L', Ext L L' w ∧ ArnAt wx L' kX kI g n s h t { A with now := some m } ∧ MemAt wx (Lab L' wx kM) gm ws c ∧ FrL L (fun k => k = kM ∨ k = kX ∨ k = kI) w wx

theorem arnTy_ne (gv : Bool) : arnTy gv ≠ 23 ∧ arnTy gv ≠ 25 := by unfold arnTy; split <;> decide

/-- A store into the machine's own block leaves the rest of it. -/
theorem arn_store {gv : Bool} {cs : Array Value} {vs vf vn : Value} {N : Nat} {xs : List Value} {A : Arn} {o : Option Mch} (hB : Blk w g cs (arnTy gv)) (hgL : L g = kX) (h1 : kX ≠ kI) (hS : Own w (Lab L w kX) 23 1 vs N xs) (hF : FreshFn w (Lab L w kX) n s h t A vf)
    (hN : NowAt w (Lab L w kI) n s h t gv vn o) (j : Nat) (u : Value) :
    Own (w.setCell ⟨g, j, none⟩ u) (Lab L (w.setCell ⟨g, j, none⟩ u) kX) 23 1 vs N xs ∧ FreshFn (w.setCell ⟨g, j, none⟩ u) (Lab L (w.setCell ⟨g, j, none⟩ u) kX) n s h t A vf ∧ NowAt (w.setCell ⟨g, j, none⟩ u) (Lab L (w.setCell ⟨g, j, none⟩ u) kI) n s h t gv vn o := by
  obtain ⟨e1, e2⟩ := arnTy_ne gv
  have hsz : (w.setCell ⟨g, j, none⟩ u).heap.size = w.heap.size := by simp [World.setCell]
  refine ⟨(hS.far' (p := ⟨g, j, none⟩) (hS.ne hB (Ne.symm e1)) u).wide (fun i hi _ => ⟨hi.1, by rw [hsz]; exact hi.2⟩), ?_, hN.lab (q := fun k => k = kX) (Fr.setCell (Fr.refl _ _) (.inr hgL) u) (Ext.refl _ _) (Ne.symm h1)⟩
  rcases hF with ⟨h0, bc, h2, h3, h4⟩ | ⟨h0, bc, bi, h2, h3, h4, h5, h6⟩
  · exact .inl ⟨h0, bc, h2, h3.far (p := ⟨g, j, none⟩) (blk_ne h3 hB (Ne.symm e2)) u, h4.1, by rw [hsz]; exact h4.2⟩
  · exact .inr ⟨h0, bc, bi, h2, h3.far (p := ⟨g, j, none⟩) (blk_ne h3 hB (Ne.symm e2)) u, ⟨h4.1, by rw [hsz]; exact h4.2⟩, h5.far (p := ⟨g, j, none⟩) (blk_ne h5 hB (Ne.symm e1)) u, h6.1, by rw [hsz]; exact h6.2⟩

/-- A new try was made, and is stored. -/
theorem go_new {w1 : World} {A : Arn} {gi : Nat} {vs vf vn : Value} {m0 : Mch} (hgL : L g = kX) (h1 : kX ≠ kI) (h2 : kM ≠ kX) (h3 : kM ≠ kI) (hok : A.ok) (hB : Blk w g (trc (.int .i64 A.left) vs vf vn (.int .i64 A.st) (.int .u32 A.i) (arnEx A)) (arnTy A.give)) (hS : Own w (Lab L w kX) 23 1 vs A.shelf.length (us .u32 A.shelf))
    (hF : FreshFn w (Lab L w kX) n s h t A vf) (hM : MemAt w (Lab L w kM) gm ws c) (hf : Fr No w w1) (hX : MchAt w1 (New w.heap.size) gi n s h t m0) (hm : m0.give = A.give) (hap : Apart vs vf) :
    GoMid L w (w1.setCell ⟨g, 3, none⟩ (.iface (if A.give then 59 else 58) (.pointer (some ⟨gi, 0, none⟩)))) kM kX kI g gm n s h t A m0 ws c := by
  have hE := ext_re L w kI
  have hgL1 : re L w kI g = kX := (hE g hB.lt).trans hgL
  have hB1 := hf.keepNo hB
  have hN1 : NowAt w1 (Lab (re L w kI) w1 kI) n s h t A.give (.iface (if A.give then 59 else 58) (.pointer (some ⟨gi, 0, none⟩))) (some m0) := ⟨hm, gi, rfl, hX.born L kI⟩
  obtain ⟨s1, s2, s3⟩ := arn_store hB1 hgL1 h1 (hS.labk (q := fun _ => False) (FrL.ofNo hf) hE id) (hF.lab (q := fun _ => False) (FrL.ofNo hf) hE id) hN1 3 (.iface (if A.give then 59 else 58) (.pointer (some ⟨gi, 0, none⟩)))
  have hB2 := hB1.set 3 (.iface (if A.give then 59 else 58) (.pointer (some ⟨gi, 0, none⟩)))
  rw [trc_s3] at hB2
  have hM1 : MemAt w1 (Lab (re L w kI) w1 kM) gm ws c := hM.lab (S := fun _ => False) (FrL.ofNo hf) hE id
  exact ⟨_, hE, ⟨hgL1, hok, vs, vf, _, hB2, s1, s2, s3, hap⟩, hM1.setX hgL1 (Ne.symm h2) 3 _, Fr.setCell (FrL.ofNo (S := fun k => k = kM ∨ k = kX ∨ k = kI) hf) (.inr (.inr (.inl hgL))) _⟩

set_option maxHeartbeats 4000000 in
theorem goOn_ (w : World) (A : Arn) (H : ArnAt w L kX kI g n s h t A) (h1 : kX ≠ kI) (h2 : kM ≠ kX) (h3 : kM ≠ kI) (hM : MemAt w (Lab L w kM) gm ws c) (hn : c ≤ 1000000) (hw : Words ws) :
    Calls Try.prog 101 #[.pointer (some ⟨g, 0, none⟩), .pointer (some ⟨gm, 0, none⟩)] w (ArnPost L w kM kX kI g gm n s h t (ago n s h A ws c)) := by
  obtain ⟨r, hr⟩ : ∃ r, r = ago n s h A ws c := ⟨_, rfl⟩
  rw [← hr]
  have HR := Lib.hid hr
  have H0 := Lib.hid H
  have HM := Lib.hid hM
  clear hr hM
  obtain ⟨hgL, hok, vs, vf, vn, hB, hS, hF, hN, hap⟩ := H
  have HAP := Lib.hid hap
  clear hap
  obtain ⟨st, hst⟩ : ∃ st, st = A.st := ⟨_, rfl⟩
  obtain ⟨ai, hai⟩ : ∃ ai, ai = A.i := ⟨_, rfl⟩
  rw [← hst, ← hai] at hB
  have C := hB.cells
  have C0 := (C 0).trans (trc_0 _ _ _ _ _ _ _)
  have C3 := (C 3).trans (trc_3 _ _ _ _ _ _ _)
  have C4 := (C 4).trans (trc_4 _ _ _ _ _ _ _)
  have C5 := (C 5).trans (trc_5 _ _ _ _ _ _ _)
  have C2 := (C 2).trans (trc_2 _ _ _ _ _ _ _)
  have hFr := hB.free
  have hlt := hB.lt
  have HST := Lib.hid hst
  have HAI := Lib.hid hai
  clear C hst hai
  by_cases hs0 : st = 0
  · subst hs0
    obtain ⟨m0, hm0⟩ : ∃ m0, m0 = A.now.getD A.fresh := ⟨_, rfl⟩
    have HM0 := Lib.hid hm0
    rw [ago, if_pos HST.out.symm, ← hm0] at HR
    clear hm0 C5
    go_enter Try.func101, Try.ntmps101
    go_upto_region 3 with (fail)
    go_cut [23] (fun v23 wx => w = wx ∧ v23 = .bool A.now.isNone)
    case first =>
      cases hnow : A.now with
      | some m =>
        rw [hnow] at hN
        obtain ⟨hgv, gi, rfl, hX⟩ := hN
        have HNW := Lib.hid hnow
        clear hnow
        by_cases hgb : A.give = true
        · rw [if_pos hgb] at C3
          clear hgb hgv
          go_wp2_with fail
          go_meet
          exact ⟨rfl, by rw [HNW.out]; rfl⟩
        · rw [if_neg hgb] at C3
          clear hgb hgv
          go_wp2_with fail
          go_meet
          exact ⟨rfl, by rw [HNW.out]; rfl⟩
      | none =>
        rw [hnow] at hN
        have hN : vn = Value.nilIface := hN
        subst hN
        have HNW := Lib.hid hnow
        clear hnow
        go_wp2_with fail
        go_meet
        exact ⟨rfl, by rw [HNW.out]; rfl⟩
    case rest =>
      obtain ⟨rfl, rfl⟩ := hcut
      obtain ⟨tb, htb⟩ : ∃ tb, tb = A.now.isNone := ⟨_, rfl⟩
      rw [← htb]
      have HTB := Lib.hid htb
      clear htb C3
      go_upto_if 23 with (fail)
      go_cut [] (fun wx => GoMid L w wx kM kX kI g gm n s h t A m0 ws c)
      case first =>
        cases tb with
        | false =>
          go_wp2_with fail
          go_meet
          have h1 := HTB.out
          cases hnow : A.now with
          | none => rw [hnow] at h1; cases h1
          | some m =>
            have e : m0 = m := by rw [HM0.out, hnow]; rfl
            have e2 : { A with now := some m0 } = A := by rw [e, ← hnow]
            exact ⟨L, Ext.refl _ _, by rw [e2]; exact H0.out, HM.out, Fr.refl _ _⟩
        | true =>
          have hnow : A.now = none := by
            have h1 := HTB.out
            cases h : A.now with
            | none => rfl
            | some m => rw [h] at h1; cases h1
          have hm0 : m0 = A.fresh := by rw [HM0.out, hnow]; rfl
          have HMF := Lib.hid hm0
          obtain ⟨k0, k1, k2, k3, k4, k5, k6, k7⟩ := hok
          clear hnow hm0
          have HF := Lib.hid hF
          have HB := Lib.hid (show Blk w g (trc (.int .i64 A.left) vs vf vn (.int .i64 A.st) (.int .u32 A.i) (arnEx A)) (arnTy A.give) by rw [← HST.out, ← HAI.out]; exact hB)
          have HOK := Lib.hid (show A.ok from ⟨k0, k1, k2, k3, k4, k5, k6, k7⟩)
          rcases hF with ⟨hg, bc, rfl, hBc, hbc⟩ | ⟨hg, bc, bi, rfl, hBc, hbc, hBi, hbi⟩
          · have HG := Lib.hid hg
            clear hg
            go_wp2_with fail
            refine (NewTakeF _ hBc).mono ?_
            rintro e w1 ⟨gi, rfl, hX, hf1⟩
            have hB1 := hf1.keepNo hB
            have F1 := hB1.free
            have C13 := (hB1.cells 3).trans (trc_3 _ _ _ _ _ _ _)
            have l1 := hB1.lt
            go_wp2_with fail
            go_meet
            have hm : m0 = ⟨false, 1, 0, 0, 0, 0, 0⟩ := by rw [HMF.out, Arn.fresh, HG.out]; rfl
            have K := go_new hgL h1 h2 h3 HOK.out HB.out hS HF.out HM.out hf1 (by rw [← hm] at hX; exact hX) (by rw [hm, HG.out]) HAP.out
            rw [HG.out] at K
            exact K
          · have HG := Lib.hid hg
            clear hg
            go_wp2_with fail
            refine (NewGiveF _ hBc hBi k3 k4).mono ?_
            rintro e w1 ⟨gi, rfl, hX, hf1⟩
            have hB1 := hf1.keepNo hB
            have F1 := hB1.free
            have C13 := (hB1.cells 3).trans (trc_3 _ _ _ _ _ _ _)
            have l1 := hB1.lt
            go_wp2_with fail
            go_meet
            have hm : m0 = ⟨true, 1, A.node, 0, 0, 0, 0⟩ := by rw [HMF.out, Arn.fresh, HG.out]; rfl
            have K := go_new hgL h1 h2 h3 HOK.out HB.out hS HF.out HM.out hf1 (by rw [← hm] at hX; exact hX) (by rw [hm, HG.out]) HAP.out
            rw [HG.out] at K
            exact K
      case rest =>
        obtain ⟨L1, hE1, ⟨hgL1, hok1, vs1, vf1, vn1, hB1, hS1, hF1, hN1, hap1⟩, hM1, hfr1⟩ := hcut
        have HAP1 := Lib.hid hap1
        clear hap1
        obtain ⟨hgv, gi, rfl, hX⟩ := hN1
        have hs0 : A.st = 0 := HST.out.symm
        obtain ⟨k0, k1, k2, k3, k4, k5, k6, k7⟩ := hok1
        have hl0 := k2 hs0
        simp only at k0 k1 k3 k4 k5 k6 hl0 hB1 hS1 hgv
        rw [hs0] at hB1
        have HOK := Lib.hid (And.intro k0 (And.intro k1 (And.intro k2 (And.intro k3 (And.intro k4 (And.intro k5 (And.intro k6 k7)))))))
        have HGV := Lib.hid hgv
        have HF1 := Lib.hid hF1
        have HS1 := Lib.hid hS1
        have C13 := (hB1.cells 3).trans (trc_3 _ _ _ _ _ _ _)
        have l1 := hB1.lt
        obtain ⟨rr, hrr⟩ : ∃ rr, rr = mgo n s h m0 ws c := ⟨_, rfl⟩
        have hrg := mgo_give n s h m0 ws c
        rw [← hrr] at hrg HR
        have HRG := Lib.hid hrg
        have HRR := Lib.hid hrr
        clear hrr hrg k2 k7 hs0 hgv hF1 hS1 C0 C2 C4 hFr hlt hB hS hF hN hok
        obtain ⟨al, hal⟩ : ∃ al, al = A.left := ⟨_, rfl⟩
        rw [← hal] at k0 k1 hl0 hB1
        have HAL := Lib.hid hal
        clear hal
        obtain ⟨st', hst'⟩ : ∃ st', st' = rr.1.st := ⟨_, rfl⟩
        obtain ⟨td', htd'⟩ : ∃ td', td' = rr.1.told := ⟨_, rfl⟩
        have K : Calls Try.prog (if A.give then 69 else 48) #[.pointer (some ⟨gi, 0, none⟩), .pointer (some ⟨gm, 0, none⟩)] wc (Steps st' td' L1 wc kM kI gi gm n s h t rr.1 rr.2.1 rr.2.2) := by
          have hto : ∀ e w', GoPost L1 wc kM kI gi gm n s h t (mgo n s h m0 ws c) e w' → Steps st' td' L1 wc kM kI gi gm n s h t rr.1 rr.2.1 rr.2.2 e w' := fun e w' h => by
            refine h.to ?_ hst'.symm htd'.symm
            rw [← HRR.out]
          by_cases hgb : A.give = true
          · rw [if_pos hgb]; exact (StepGive _ hX (Ne.symm h3) hM1 hn hw).mono hto
          · rw [if_neg hgb]; exact (StepTake _ hX (Ne.symm h3) hM1 hn hw).mono hto
        have HK := Lib.hid K
        have HST' := Lib.hid hst'
        have HTD' := Lib.hid htd'
        clear K hst' htd' hM1 hX
        go_upto_region 5 with (fail)
        go_cut [32, 41, 42] (fun v32 v41 v42 wx => ∃ w2, Left L1 wc kM kI gi gm n s h t rr.1 rr.2.1 rr.2.2 w2 ∧ wx = (w2.setCell ⟨g, 4, none⟩ (.int .i64 st')).setCell ⟨g, 5, none⟩ (.int .u32 td'))
        case first =>
          by_cases hgb : A.give = true
          · rw [if_pos hgb] at HK C13
            have hm := m_give
            clear hgb
            go_wp2_with fail
            refine HK.out.mono ?_
            rintro e w2 ⟨rfl, hL2⟩
            have hB2 := Fr.keep hL2.fr hB1 (by rw [hgL1]; omega)
            have D4 := (hB2.cells 4).trans (trc_4 _ _ _ _ _ _ _)
            have D5 := (hB2.cells 5).trans (trc_5 _ _ _ _ _ _ _)
            have F2 := hB2.free
            clear hm
            go_wp2_with fail
            go_meet
            exact ⟨w2, hL2, rfl⟩
          · rw [if_neg hgb] at HK C13
            have hm := m_take
            clear hgb
            go_wp2_with fail
            refine HK.out.mono ?_
            rintro e w2 ⟨rfl, hL2⟩
            have hB2 := Fr.keep hL2.fr hB1 (by rw [hgL1]; omega)
            have D4 := (hB2.cells 4).trans (trc_4 _ _ _ _ _ _ _)
            have D5 := (hB2.cells 5).trans (trc_5 _ _ _ _ _ _ _)
            have F2 := hB2.free
            clear hm
            go_wp2_with fail
            go_meet
            exact ⟨w2, hL2, rfl⟩
        case rest =>
          obtain ⟨w2, ⟨L2, hE2, hX2, hM2, hf2⟩, rfl⟩ := hcut
          have hgL2 : L2 g = kX := (hE2 g l1).trans hgL1
          have hB2 := Fr.keep hf2 hB1 (by rw [hgL1]; omega)
          have hS2 := HS1.out.labk hf2 hE2 (by omega)
          have hF2 := HF1.out.lab hf2 hE2 (by omega)
          have hgv2 : rr.1.give = A.give := HRG.out.trans HGV.out
          have hN2 : NowAt w2 (Lab L2 w2 kI) n s h t A.give (.iface (if A.give then 59 else 58) (.pointer (some ⟨gi, 0, none⟩))) (some rr.1) := ⟨hgv2, gi, rfl, hX2⟩
          have hok2 := hX2.2.1
          have hi2 : 0 ≤ rr.1.told ∧ rr.1.told < 4294967296 := by unfold Mch.told; split; exact ⟨hok2.1, hok2.2.1⟩; omega
          obtain ⟨s1, s2, s3⟩ := arn_store hB2 hgL2 h1 hS2 hF2 hN2 4 (.int .i64 st')
          have hB3 := hB2.set 4 (.int .i64 st')
          rw [trc_s4] at hB3
          obtain ⟨s4, s5, s6⟩ := arn_store hB3 hgL2 h1 s1 s2 s3 5 (.int .u32 td')
          have hB4 := hB3.set 5 (.int .u32 td')
          rw [trc_s5] at hB4
          have hM4 := (hM2.setX hgL2 (Ne.symm h2) 4 (.int .i64 st')).setX hgL2 (Ne.symm h2) 5 (.int .u32 td')
          have hE : Ext L L2 w := hE1.trans hE2 hfr1.size
          have hfr2 : FrL L (fun k => k = kM ∨ k = kX ∨ k = kI) w w2 := hfr1.then (hf2.mono (fun i hi => by rcases hi with h | h; exact .inl h; exact .inr (.inr h))) hE1
          have hgw : g < w.heap.size ∨ w.heap.size ≤ g := Nat.lt_or_ge _ _
          have hgo : w.heap.size ≤ g ∨ (L g = kM ∨ L g = kX ∨ L g = kI) := .inr (.inr (.inl hgL))
          have hfr4 : FrL L (fun k => k = kM ∨ k = kX ∨ k = kI) w ((w2.setCell ⟨g, 4, none⟩ (.int .i64 st')).setCell ⟨g, 5, none⟩ (.int .u32 td')) := Fr.setCell (Fr.setCell hfr2 hgo _) hgo _
          generalize (w2.setCell ⟨g, 4, none⟩ (.int .i64 st')).setCell ⟨g, 5, none⟩ (.int .u32 td') = w4 at s4 s5 s6 hB4 hM4 hfr4 ⊢
          clear hf2 hE2 hX2 hM2 hB2 hS2 hF2 hN2 s1 s2 s3 hB3 hE1 hfr1 hfr2 hB1 C13 l1 hgL1 hgw
          have D0 := (hB4.cells 0).trans (trc_0 _ _ _ _ _ _ _)
          have D3 := (hB4.cells 3).trans (trc_3 _ _ _ _ _ _ _)
          have D4 := (hB4.cells 4).trans (trc_4 _ _ _ _ _ _ _)
          have D5 := (hB4.cells 5).trans (trc_5 _ _ _ _ _ _ _)
          have F4 := hB4.free
          have hgo' := Lib.hid hgo
          have HE := Lib.hid hE
          clear hgo hE
          by_cases hc3 : st' = 3
          · subst hc3
            have HMS := Lib.hid hM4
            have HFR := Lib.hid hfr4
            clear hM4 hfr4
            go_upto_region 8 with (fail)
            obtain ⟨s7, s8, s9⟩ := arn_store hB4 hgL2 h1 s4 s5 s6 3 Value.nilIface
            have hB5 := hB4.set 3 Value.nilIface
            rw [trc_s3] at hB5
            obtain ⟨s10, s11, s12⟩ := arn_store hB5 hgL2 h1 s7 s8 s9 4 (.int .i64 0)
            have hB6 := hB5.set 4 (.int .i64 0)
            rw [trc_s4] at hB6
            have hM6 := (HMS.out.setX hgL2 (Ne.symm h2) 3 Value.nilIface).setX hgL2 (Ne.symm h2) 4 (.int .i64 0)
            have hfr6 : FrL L (fun k => k = kM ∨ k = kX ∨ k = kI) w ((w4.setCell ⟨g, 3, none⟩ Value.nilIface).setCell ⟨g, 4, none⟩ (.int .i64 0)) := Fr.setCell (Fr.setCell HFR.out hgo'.out _) hgo'.out _
            generalize (w4.setCell ⟨g, 3, none⟩ Value.nilIface).setCell ⟨g, 4, none⟩ (.int .i64 0) = w6 at s10 s11 s12 hB6 hM6 hfr6 ⊢
            clear D0 D3 D4 D5 F4 s4 s5 s6 s7 s8 s9 hB4 hB5 HMS HFR
            have D0 := (hB6.cells 0).trans (trc_0 _ _ _ _ _ _ _)
            have D4 := (hB6.cells 4).trans (trc_4 _ _ _ _ _ _ _)
            have F6 := hB6.free
            obtain ⟨a0, a1, a2, a3, a4, a5, a6, a7⟩ := HOK.out
            by_cases hl : al = 0
            · subst hl
              go_upto_region 11 with (fail)
              obtain ⟨t1, t2, t3⟩ := arn_store hB6 hgL2 h1 s10 s11 s12 4 (.int .i64 6)
              have hB7 := hB6.set 4 (.int .i64 6)
              rw [trc_s4] at hB7
              obtain ⟨t4, t5, t6⟩ := arn_store hB7 hgL2 h1 t1 t2 t3 0 (.int .i64 (-1))
              have hB8 := hB7.set 0 (.int .i64 (-1))
              rw [trc_s0] at hB8
              have hM8 := (hM6.setX hgL2 (Ne.symm h2) 4 (.int .i64 6)).setX hgL2 (Ne.symm h2) 0 (.int .i64 (-1))
              have hfr8 : FrL L (fun k => k = kM ∨ k = kX ∨ k = kI) w ((w6.setCell ⟨g, 4, none⟩ (.int .i64 6)).setCell ⟨g, 0, none⟩ (.int .i64 (-1))) := Fr.setCell (Fr.setCell hfr6 hgo'.out _) hgo'.out _
              generalize (w6.setCell ⟨g, 4, none⟩ (.int .i64 6)).setCell ⟨g, 0, none⟩ (.int .i64 (-1)) = w8 at t4 t5 t6 hB8 hM8 hfr8 ⊢
              clear D0 D4 F6 s10 s11 s12 hB6 hM6 hfr6 t1 t2 t3 hB7
              have D4 := (hB8.cells 4).trans (trc_4 _ _ _ _ _ _ _)
              have D5 := (hB8.cells 5).trans (trc_5 _ _ _ _ _ _ _)
              go_quiet (fail)
              go_wp2_with fail
              go_ret2
              have hal0 := HAL.out
              rw [HR.out, if_pos HST'.out.symm, if_pos HAL.out.symm]
              refine ⟨by rw [HTD'.out]; rfl, L2, HE.out, ArnAt.no ?_ ((Fr.refl No w8).drewN _), hM8.no ((Fr.refl No w8).drewN _), hfr8.then (FrL.ofNo ((Fr.refl No w8).drewN _)) HE.out⟩
              refine ⟨hgL2, ⟨by show -1 ≤ A.left - 1; omega, by show A.left - 1 ≤ _; omega, (fun h => by cases h), a3, a4, hi2.1, hi2.2, a7⟩, _, _, _, ?_, t4, t5, rfl, HAP1.out⟩
              rw [← HAL.out]
              rw [HTD'.out] at hB8
              exact hB8
            · have hl1 : (al == 0) = false := by simpa using hl
              have HLN := Lib.hid hl
              clear hl
              go_upto_region 11 with (fail)
              obtain ⟨t4, t5, t6⟩ := arn_store hB6 hgL2 h1 s10 s11 s12 0 (.int .i64 (al - 1))
              have hB8 := hB6.set 0 (.int .i64 (al - 1))
              rw [trc_s0] at hB8
              have hM8 := hM6.setX hgL2 (Ne.symm h2) 0 (.int .i64 (al - 1))
              have hfr8 : FrL L (fun k => k = kM ∨ k = kX ∨ k = kI) w (w6.setCell ⟨g, 0, none⟩ (.int .i64 (al - 1))) := Fr.setCell hfr6 hgo'.out _
              generalize w6.setCell ⟨g, 0, none⟩ (.int .i64 (al - 1)) = w8 at t4 t5 t6 hB8 hM8 hfr8 ⊢
              clear D0 D4 F6 s10 s11 s12 hB6 hM6 hfr6
              have D4 := (hB8.cells 4).trans (trc_4 _ _ _ _ _ _ _)
              have D5 := (hB8.cells 5).trans (trc_5 _ _ _ _ _ _ _)
              go_quiet (fail)
              go_wp2_with fail
              go_ret2
              have hln := HLN.out
              rw [HAL.out] at hln
              rw [HR.out, if_pos HST'.out.symm, if_neg hln]
              refine ⟨by rw [HTD'.out]; rfl, L2, HE.out, ArnAt.no ?_ ((Fr.refl No w8).drewN _), hM8.no ((Fr.refl No w8).drewN _), hfr8.then (FrL.ofNo ((Fr.refl No w8).drewN _)) HE.out⟩
              have hal0 := HAL.out
              have hln2 := HLN.out
              refine ⟨hgL2, ⟨by show -1 ≤ A.left - 1; omega, by show A.left - 1 ≤ _; omega, fun _ => by show 0 ≤ A.left - 1; omega, a3, a4, hi2.1, hi2.2, a7⟩, _, _, _, ?_, t4, t5, rfl, HAP1.out⟩
              rw [HTD'.out, HAL.out] at hB8
              exact hB8
          · have hc4 : (st' == 3) = false := by simpa using hc3
            have HC3 := Lib.hid hc3
            clear hc3 D0 D3 F4
            go_wp2_with fail
            go_quiet (fail)
            go_wp2_with fail
            go_ret2
            rw [HR.out, if_neg (by rw [← HST'.out]; exact HC3.out)]
            have hf5 := (Fr.refl No w4).drewN
            refine ⟨by rw [HST'.out, HTD'.out]; rfl, L2, HE.out, ArnAt.no ?_ ((Fr.refl No w4).drewN _), hM4.no ((Fr.refl No w4).drewN _), hfr4.then (FrL.ofNo ((Fr.refl No w4).drewN _)) HE.out⟩
            obtain ⟨a0, a1, a2, a3, a4, a5, a6, a7⟩ := HOK.out
            refine ⟨hgL2, ⟨a0, a1, fun _ => a2 HST.out.symm, a3, a4, hi2.1, hi2.2, a7⟩, _, _, _, ?_, s4, s5, s6, HAP1.out⟩
            rw [HAL.out, HST'.out, HTD'.out] at hB4
            exact hB4
  · have hs1 : (st != 0) = true := by simpa using hs0
    rw [ago, if_neg (by rw [← HST.out]; exact hs0)] at HR
    have HS0 := Lib.hid hs0
    clear hs0 C0 C3 C2 hFr
    go_enter Try.func101, Try.ntmps101
    go_wp2_with fail
    go_quiet (fail)
    go_wp2_with fail
    go_ret2
    rw [HR.out]
    exact ⟨by rw [HST.out, HAI.out]; rfl, L, Ext.refl _ _, H0.out.no ((Fr.refl No w).drewN _), HM.out.no ((Fr.refl No w).drewN _), FrL.ofNo ((Fr.refl No w).drewN _)⟩
end Go.Proofs.Ytfglpigoljclbaa.H
