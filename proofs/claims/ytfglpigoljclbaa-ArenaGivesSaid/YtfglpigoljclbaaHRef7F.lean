/- hatstandref7: Machine.first. -/
import Derived.Test.YtfglpigoljclbaaHRef7
set_option linter.unusedVariables false
set_option linter.unusedSimpArgs false
namespace Go.Proofs.Ytfglpigoljclbaa.H
open Go.RowKit
attribute [local go_sem ↓] Go.wp_at_zero Go.wp_at_succ
variable {w w' a b : World} {S T : Nat → Prop} {g gm k c kM kX : Nat} {ws : List Int} {m : Mch} {n s h t : Int} {L L' : Nat → Nat}

/-- What the document's machine's step tells and does. -/
def RPost (L : Nat → Nat) (w : World) (kM kX g gm : Nat) (n s h t : Int) (r : Mch × List Int × Nat) (e : Ending) (w' : World) : Prop :=
  e = .returned (.tuple #[.int .i64 r.1.st, .int .u32 r.1.told]) ∧ ∃ L', Ext L L' w ∧ RchAt w' (Lab L' w' kX) g n s h t r.1 ∧ RefAt w' (Lab L' w' kM) gm r.2.1 r.2.2 ∧ FrL L (fun k => k = kM ∨ k = kX) w w'

theorem RefAt.no (H : RefAt w (Lab L w k) g ws c) (hf : Fr No w w') : RefAt w' (Lab L w' k) g ws c :=
  H.lab (S := fun _ => False) (FrL.ofNo hf) (Ext.refl _ _) id

theorem RefAt.setX (H : RefAt a (Lab L a kM) gm ws c) (hg : L g = kX) (hk : kX ≠ kM) (j : Nat) (u : Value) : RefAt (a.setCell ⟨g, j, none⟩ u) (Lab L (a.setCell ⟨g, j, none⟩ u) kM) gm ws c :=
  H.lab (S := fun k => k = kX) (Fr.setCell (Fr.refl _ _) (.inr hg) u) (Ext.refl _ _) (Ne.symm hk)

/-- A machine that ends by 'end'. -/
theorem rend_post {w w1 w2 : World} {place i pc wv nx st' : Int} {give : Bool} {m' : Mch} (hgL : L g = kX) (hk : kX ≠ kM) (hE : Ext L L' w) (hg : g < w.heap.size) (hf : FrL L (fun k => k = kM ∨ k = kX) w w1) (hM : RefAt w1 (Lab L' w1 kM) gm ws c)
    (hB : Blk w2 g (rcells n s h t place give i pc wv nx st') 119) (hf2 : Fr (fun j => j = g) w1 w2) (h0 : ¬ st' = 0) (h1 : m'.st = st') (h2 : m'.place = place) (h3 : m'.give = give) (h4 : st' = 1 → i = m'.i) (h5 : m'.ok) :
    RPost L w kM kX g gm n s h t (m', ws, c) (.returned (.tuple #[.int .i64 st', .int .u32 (if st' = 1 then i else 0)])) w2 := by
  subst h1 h2 h3
  have hgL' : L' g = kX := (hE g hg).trans hgL
  have hf3 : FrL L' (fun k => k = kX) w1 w2 := Fr.mono hf2 (fun i _ e => by rw [e]; exact hgL')
  refine ⟨?_, L', hE, ⟨⟨hgL', hB.lt⟩, h5, i, pc, wv, nx, hB, h4, fun e => absurd e h0⟩, hM.lab hf3 (Ext.refl _ _) (Ne.symm hk), hf.then (hf3.mono (fun i hi => .inr hi)) hE⟩
  by_cases h : m'.st = 1
  · rw [if_pos h, h4 h]; simp only [Mch.told, if_pos h]
  · rw [if_neg h]; simp only [Mch.told, if_neg h]

set_option maxHeartbeats 4000000 in
theorem rfirstT_ (w : World) (place i wv nx mw nn : Int) (hB : Blk w g (rcells n s h t place false i 1 wv nx 0) 119) (hgL : L g = kX) (hk : kX ≠ kM)
    (hM : RefAt w (Lab L w kM) gm ws c) (hn : c ≤ 1000000) (hw : Words ws) (hok : Mch.ok ⟨false, place, i, mw, 0, nn, 0⟩) :
    Calls Try.prog 71 #[.pointer (some ⟨g, 0, none⟩), .pointer (some ⟨gm, 0, none⟩)] w (RPost L w kM kX g gm n s h t (mstep n s h ⟨false, place, i, mw, 0, nn, 0⟩ ws c)) := by
  have hgM : ¬ L g = kM := by rw [hgL]; exact hk
  obtain ⟨x, hx⟩ : ∃ x, x = ldV ws place := ⟨_, rfl⟩
  have hxi := ldV_in hw place
  rw [← hx] at hxi
  obtain ⟨x0, x1⟩ := hxi
  have HX := Lib.hid hx
  have HM := Lib.hid hM
  obtain ⟨k0, k1, k2, k3, k4, k5⟩ := hok
  simp only at k0 k1 k2 k3 k4 k5
  have hB0 : Blk w g #[.int .i64 n, .int .i64 s, .int .i64 h, .int .u32 t, .int .i64 place, .bool false, .int .u32 i, .int .i64 1, .int .u64 wv, .int .u32 nx, .int .i64 0] 119 := hB
  have hBl := hB.lt
  obtain ⟨r, hr⟩ : ∃ r, r = mstep n s h ⟨false, place, i, mw, 0, nn, 0⟩ ws c := ⟨_, rfl⟩
  rw [← hr]
  have HR := Lib.hid hr
  clear hx hM hr hB
  have C := hB0.cells
  go_enter Try.func71, Try.ntmps71
  go_wp2_with fail
  go_quiet (fail)
  go_wp2_with fail
  generalize hwD : w.drewN _ = wD
  have hfD : Fr No w wD := by rw [← hwD]; exact (Fr.refl No w).drewN _
  clear hwD C
  have hMD := HM.out.no hfD
  have hBD := hfD.keepNo hB0
  by_cases hi : inR ws place
  · have e1 : ldE ws place = 0 := by rw [ldE, if_pos hi]
    refine (RLoadL _ hMD _ hn).mono ?_
    rintro e w1 ⟨rfl, hM1, hf1⟩
    rw [e1, ← HX.out]
    have hB1 := Fr.keep hf1 hBD hgM
    have C1 := hB1.cells
    have F1 := hB1.free
    have hre : re L wD kM g = kX := by rw [re, if_pos hBD.lt]; exact hgL
    have hE : Ext L (re L wD kM) w := ext_re' hfD.size
    have hf01 : FrL L (fun k => k = kM ∨ k = kX) w w1 := (FrL.ofNo hfD).then (hf1.mono (fun i hi => .inl hi)) (Ext.refl _ _)
    clear e1
    have HB2 := Lib.hid (hB1.set 8 (.int .u64 x))
    have HM2 := Lib.hid (hM1.setX hre hk 8 (.int .u64 x))
    have HF2 := Lib.hid (Fr.setCell hf01 (p := ⟨g, 8, none⟩) (.inr (.inr hgL)) (.int .u64 x))
    clear hf01 hM1 hf1
    go_wp2_with fail
    refine (RIndex_ _ _ x0 x1).mono ?_
    rintro e w2 ⟨rfl, rfl⟩
    obtain ⟨y, hy⟩ : ∃ y, y = x % 4294967296 := ⟨_, rfl⟩
    rw [← hy]
    have y0 : 0 ≤ y := by omega
    have y1 : y < 4294967296 := by omega
    have HY := Lib.hid hy
    clear hy
    have HB3 := Lib.hid (HB2.out.set 6 (.int .u32 y))
    have HM3 := Lib.hid (HM2.out.setX hre hk 6 (.int .u32 y))
    have HF3 := Lib.hid (Fr.setCell HF2.out (p := ⟨g, 6, none⟩) (.inr (.inr hgL)) (.int .u32 y))
    by_cases hz : y = 0
    · subst hz
      go_wp2_with fail
      refine (rend_ _ place false 0 1 x nx 0 2 HB3.out).mono ?_
      rintro e w3 ⟨rfl, hB3, hf3⟩
      go_wp2_with fail
      go_ret2
      rw [show r = (⟨false, place, 0, x, 0, nn, 2⟩, ws, ldN c ws place) from HR.out.trans (by simp only [mstep, if_pos hi, ← HX.out, ← HY.out]; rfl)]
      exact rend_post hgL hk hE hBl HF3.out HM3.out hB3 hf3 (by decide) rfl rfl rfl (fun e => by cases e) ⟨y0, y1, x0, x1, k4, k5⟩
    · have hz' : (y == 0) = false := by simpa using hz
      go_wp2_with fail
      have hB3 := HB3.out
      have hM3 := HM3.out
      have hF3 := HF3.out
      generalize hw3 : (w1.setCell ⟨g, 8, none⟩ (.int .u64 x)).setCell ⟨g, 6, none⟩ (.int .u32 y) = w3 at hB3 hM3 hF3 ⊢
      have hB3' : Blk w3 g #[.int .i64 n, .int .i64 s, .int .i64 h, .int .u32 t, .int .i64 place, .bool false, .int .u32 y, .int .i64 1, .int .u64 x, .int .u32 nx, .int .i64 0] 119 := hB3
      have C3 := hB3'.cells
      have q0 := C3 0
      have q1 := C3 1
      have q2 := C3 2
      have q3 := C3 3
      have q6 := C3 6
      simp at q0 q1 q2 q3 q6
      have hF3 : FrL L (fun k => k = kM ∨ k = kX) w w3 := hF3
      have hl3 := hB3'.lt
      have hz0 := Lib.hid hz
      clear C3 C1 F1 hw3 hz hz'
      by_cases hneg : nextAt n s h y < 0
      · go_region_held3 (fun w' => w'.cell? ⟨g, 0, none⟩ = some (.int .i64 n) ∧ w'.cell? ⟨g, 1, none⟩ = some (.int .i64 s) ∧ w'.cell? ⟨g, 2, none⟩ = some (.int .i64 h) ∧ w'.cell? ⟨g, 3, none⟩ = some (.int .u32 t) ∧ w'.cell? ⟨g, 6, none⟩ = some (.int .u32 y)) (first | (go_keep; done) | (go_split_ands; (repeat' apply And.intro) <;> first | assumption | (refine (Fr.cell (S := No) (by assumption) (by first | (simp; done) | (simp; omega) | omega) id).trans ?_; first | assumption | (simp; done) | (simp; assumption)) | (refine (Fr.frozen (S := No) (by assumption) (by first | (simp; done) | (simp; omega) | omega) id).trans ?_; first | assumption | (simp; done) | (simp; assumption))))
          ((go_at_call 73; refine (RNext6_ _ _ _ _ _ _ y0 y1).mono ?_; rintro e w5 ⟨rfl, hf5⟩; have hB5 := hf5.keepNo hB3.drew; have hf35 := ((Fr.refl No w3).drew).then hf5; have hM5 := hM3.no hf35; have hF5 := hF3.then (FrL.ofNo (S := fun k => k = kM ∨ k = kX) hf35) (Ext.refl _ _)))
        all_goals
          go_wp2_with fail
          refine (rend_ _ place false y 1 x nx 0 5 hB5).mono ?_
          rintro e w6 ⟨rfl, hB6, hf6⟩
          go_wp2_with fail
          go_ret2
          rw [show r = (⟨false, place, y, x, 0, nn, 5⟩, ws, ldN c ws place) from HR.out.trans (by simp only [mstep, if_pos hi, ← HX.out, ← HY.out, if_neg hz0.out, if_pos hneg]; rfl)]
          exact rend_post hgL hk hE hBl hF5 hM5 hB6 hf6 (by decide) rfl rfl rfl (fun e => by cases e) ⟨y0, y1, x0, x1, k4, k5⟩
      · go_region_held3 (fun w' => w'.cell? ⟨g, 0, none⟩ = some (.int .i64 n) ∧ w'.cell? ⟨g, 1, none⟩ = some (.int .i64 s) ∧ w'.cell? ⟨g, 2, none⟩ = some (.int .i64 h) ∧ w'.cell? ⟨g, 3, none⟩ = some (.int .u32 t) ∧ w'.cell? ⟨g, 6, none⟩ = some (.int .u32 y)) (first | (go_keep; done) | (go_split_ands; (repeat' apply And.intro) <;> first | assumption | (refine (Fr.cell (S := No) (by assumption) (by first | (simp; done) | (simp; omega) | omega) id).trans ?_; first | assumption | (simp; done) | (simp; assumption)) | (refine (Fr.frozen (S := No) (by assumption) (by first | (simp; done) | (simp; omega) | omega) id).trans ?_; first | assumption | (simp; done) | (simp; assumption))))
          ((go_at_call 73; refine (RNext6_ _ _ _ _ _ _ y0 y1).mono ?_; rintro e w5 ⟨rfl, hf5⟩; have hB5 := hf5.keepNo hB3.drew; have hf35 := ((Fr.refl No w3).drew).then hf5; have hM5 := hM3.no hf35; have hF5 := hF3.then (FrL.ofNo (S := fun k => k = kM ∨ k = kX) hf35) (Ext.refl _ _)))
        all_goals
          go_wp2_with fail
          go_ret2
          rw [show r = (⟨false, place, y, x, 1, nn, 0⟩, ws, ldN c ws place) from HR.out.trans (by simp only [mstep, if_pos hi, ← HX.out, ← HY.out, if_neg hz0.out, if_neg (show ¬ nextAt n s h y < 0 by omega)]; rfl)]
          exact ⟨rfl, _, hE, ⟨⟨hre, hB5.lt⟩, ⟨y0, y1, x0, x1, k4, k5⟩, y, 1, x, nx, hB5, fun _ => rfl, fun _ => ⟨rfl, rfl, by show (1 : Nat) ≤ 2; omega, fun _ => rfl, fun e => by cases e⟩⟩, hM5, hF5⟩
  · have e1 : ldE ws place = 2 := by rw [ldE, if_neg hi]
    have e2 : x = 0 := by rw [HX.out, ldV, if_neg hi]
    refine (RLoadL _ hMD _ hn).mono ?_
    rintro e w1 ⟨rfl, hM1, hf1⟩
    rw [e1, ← HX.out, e2]
    have hB1 := Fr.keep hf1 hBD hgM
    have C1 := hB1.cells
    have F1 := hB1.free
    have hre : re L wD kM g = kX := by rw [re, if_pos hBD.lt]; exact hgL
    have hE : Ext L (re L wD kM) w := ext_re' hfD.size
    have hf01 : FrL L (fun k => k = kM ∨ k = kX) w w1 := (FrL.ofNo hfD).then (hf1.mono (fun i hi => .inl hi)) (Ext.refl _ _)
    clear e1
    have HB2 := Lib.hid (hB1.set 8 (.int .u64 0))
    have HM2 := Lib.hid (hM1.setX hre hk 8 (.int .u64 0))
    have HF2 := Lib.hid (Fr.setCell hf01 (p := ⟨g, 8, none⟩) (.inr (.inr hgL)) (.int .u64 0))
    clear hf01 hM1 hf1
    go_wp2_with fail
    refine (rend_ _ place false i 1 0 nx 0 5 HB2.out).mono ?_
    rintro e w3 ⟨rfl, hB3, hf3⟩
    go_wp2_with fail
    go_ret2
    rw [show r = (⟨false, place, 0, 0, 0, nn, 5⟩, ws, ldN c ws place) from HR.out.trans (by simp only [mstep, if_neg hi, ← HX.out, e2]; rfl)]
    exact rend_post hgL hk hE hBl HF2.out HM2.out hB3 hf3 (by decide) rfl rfl rfl (fun e => by cases e) ⟨by simp, by simp, by simp, by simp, k4, k5⟩
end Go.Proofs.Ytfglpigoljclbaa.H
