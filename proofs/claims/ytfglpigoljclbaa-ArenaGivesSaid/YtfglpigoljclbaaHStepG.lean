/- taglist: the first step of a Give. -/
import Derived.Test.YtfglpigoljclbaaHStep
set_option linter.unusedVariables false
set_option linter.unusedSimpArgs false
namespace Go.Proofs.Ytfglpigoljclbaa.H
open Go.RowKit
attribute [local go_sem ↓] Go.wp_at_zero Go.wp_at_succ
variable {w w' a b : World} {S T : Nat → Prop} {g gm k c kM kX : Nat} {ws : List Int} {m : Mch} {n s h t : Int} {L L' : Nat → Nat}

set_option maxHeartbeats 4000000 in
theorem giveHead_ (w : World) (place i wv nn : Int) (f : Value) (hB : Blk w g #[.int .i64 n, .int .i64 s, .int .i64 h, .int .u32 t, .int .i64 place, .int .u32 i, .int .u64 wv, f, .int .i64 0] 132) (hgL : L g = kX) (hk : kX ≠ kM)
    (hM : MemAt w (Lab L w kM) gm ws c) (hn : c ≤ 1000000) (hw : Words ws) (hok : Mch.ok ⟨true, place, i, wv, 0, nn, 0⟩) :
    Calls Try.prog 79 #[.pointer (some ⟨g, 0, none⟩), .pointer (some ⟨gm, 0, none⟩)] w (StepPost L w kM kX g gm n s h t (mstep n s h ⟨true, place, i, wv, 0, nn, 0⟩ ws c)) := by
  have hgM : ¬ L g = kM := by rw [hgL]; exact hk
  obtain ⟨x, hx⟩ : ∃ x, x = ldV ws place := ⟨_, rfl⟩
  have hxi := ldV_in hw place
  rw [← hx] at hxi
  obtain ⟨x0, x1⟩ := hxi
  have HX := Lib.hid hx
  have HM := Lib.hid hM
  obtain ⟨k0, k1, k2, k3, k4, k5⟩ := hok
  simp only at k0 k1 k2 k3 k4 k5
  have C := hB.cells
  have hBl := hB.lt
  have hend : ∀ (L' : Nat → Nat) (m' : Mch) (c' : Nat) (w2 : World) (f' : Value), Ext L L' w → m'.ok → m'.give = true → Blk w2 g #[.int .i64 n, .int .i64 s, .int .i64 h, .int .u32 t, .int .i64 m'.place, .int .u32 m'.i, .int .u64 m'.w, f', .int .i64 0] 132 → (m'.st = 0 → m'.pc = 1 ∧ f' = .func (.func 97) #[.pointer (some ⟨g, 0, none⟩)] #[]) →
      MemAt w2 (Lab L' w2 kM) gm ws c' → FrL L (fun k => k = kM ∨ k = kX) w w2 → StepPost L w kM kX g gm n s h t (m', ws, c') (.returned (.int .i64 m'.st)) w2 := fun L' m' c' w2 f' h0 h1 h2 h3 h4 h5 h6 =>
    ⟨rfl, L', h0, ⟨⟨(h0 g hBl).trans hgL, h3.lt⟩, h1, f', by unfold mty; rw [h2]; exact h3, fun e => .inr (.inl ⟨h2, (h4 e).1, (h4 e).2⟩)⟩, h5, h6⟩
  have HEND := Lib.hid hend
  clear hx hM hend
  obtain ⟨r, hr⟩ : ∃ r, r = mstep n s h ⟨true, place, i, wv, 0, nn, 0⟩ ws c := ⟨_, rfl⟩
  rw [← hr]
  have HR := Lib.hid hr
  clear hr
  have q0 := C 0
  have q1 := C 1
  have q2 := C 2
  have q3 := C 3
  have q5 := C 5
  simp at q0 q1 q2 q3 q5
  clear C
  go_enter Try.func79, Try.ntmps79
  go_wp2_with fail
  by_cases hneg : nextAt n s h i < 0
  · go_region_held3 (fun w' => w'.cell? ⟨g, 0, none⟩ = some (.int .i64 n) ∧ w'.cell? ⟨g, 1, none⟩ = some (.int .i64 s) ∧ w'.cell? ⟨g, 2, none⟩ = some (.int .i64 h) ∧ w'.cell? ⟨g, 3, none⟩ = some (.int .u32 t) ∧ w'.cell? ⟨g, 5, none⟩ = some (.int .u32 i)) (first | (go_keep; done) | (go_split_ands; (repeat' apply And.intro) <;> first | assumption | (refine (Fr.cell (S := No) (by assumption) (by first | (simp; done) | (simp; omega) | omega) id).trans ?_; first | assumption | (simp; done) | (simp; assumption)) | (refine (Fr.frozen (S := No) (by assumption) (by first | (simp; done) | (simp; omega) | omega) id).trans ?_; first | assumption | (simp; done) | (simp; assumption))))
      ((go_at_call 29; refine (Next_any _ _ _ _ _ _ k0 k1).mono ?_; rintro e w5 ⟨rfl, hf5⟩; have hB5 := hf5.keepNo hB.drew; have C5 := hB5.cells; have F5 := hB5.free; have hF5 := ((Fr.refl No w).drew).then hf5; have hM5 := HM.out.no hF5))
    all_goals
      go_wp2_with fail
      go_ret
      rw [show r = (⟨true, place, i, wv, 0, nn, 5⟩, ws, c) from HR.out.trans (by simp only [mstep, if_pos hneg]; rfl)]
      exact HEND.out L ⟨true, place, i, wv, 0, nn, 5⟩ c _ f (Ext.refl _ _) ⟨k0, k1, k2, k3, k4, k5⟩ rfl hB5 (fun e => by cases e) hM5 (FrL.ofNo hF5)
  · have hneg' : ¬ nextAt n s h i < 0 := by omega
    have HN := Lib.hid hneg'
    go_region_held3 (fun w' => w'.cell? ⟨g, 0, none⟩ = some (.int .i64 n) ∧ w'.cell? ⟨g, 1, none⟩ = some (.int .i64 s) ∧ w'.cell? ⟨g, 2, none⟩ = some (.int .i64 h) ∧ w'.cell? ⟨g, 3, none⟩ = some (.int .u32 t) ∧ w'.cell? ⟨g, 5, none⟩ = some (.int .u32 i)) (first | (go_keep; done) | (go_split_ands; (repeat' apply And.intro) <;> first | assumption | (refine (Fr.cell (S := No) (by assumption) (by first | (simp; done) | (simp; omega) | omega) id).trans ?_; first | assumption | (simp; done) | (simp; assumption)) | (refine (Fr.frozen (S := No) (by assumption) (by first | (simp; done) | (simp; omega) | omega) id).trans ?_; first | assumption | (simp; done) | (simp; assumption))))
      ((go_at_call 29; refine (Next_any _ _ _ _ _ _ k0 k1).mono ?_; rintro e w5 ⟨rfl, hf5⟩; have hB5 := hf5.keepNo hB.drew; have C5 := hB5.cells; have F5 := hB5.free; have hF5 := ((Fr.refl No w).drew).then hf5; have hM5 := HM.out.no hF5))
    all_goals
      by_cases hi : inR ws place
      · have e1 : ldE ws place = 0 := by rw [ldE, if_pos hi]
        go_wp2_with fail
        refine (LoadL _ hM5 _ hn).mono ?_
        rintro e w6 ⟨rfl, hM6, hf6⟩
        rw [e1, ← HX.out]
        have hB6 := Fr.keep hf6 hB5 hgM
        have C6 := hB6.cells
        have F6 := hB6.free
        clear e1 C5 F5
        go_wp2_with fail
        go_ret
        have hre : re L w5 kM g = kX := by rw [re, if_pos hB5.lt]; exact hgL
        rw [show r = (⟨true, place, i, x, 1, nn, 0⟩, ws, ldN c ws place) from HR.out.trans (by simp only [mstep, if_neg (Int.not_lt.2 HN.out), if_pos hi, ← HX.out]; rfl)]
        exact HEND.out (re L w5 kM) ⟨true, place, i, x, 1, nn, 0⟩ _ _ _ (ext_re' hF5.size) ⟨k0, k1, x0, x1, k4, k5⟩ rfl ((hB6.set 6 _).set 7 _) (fun _ => ⟨rfl, rfl⟩) ((hM6.setX hre hk 6 _).setX hre hk 7 _)
          (Fr.setCell (Fr.setCell ((FrL.ofNo (S := fun k => k = kM ∨ k = kX) hF5).then (hf6.mono (fun i hi => .inl hi)) (Ext.refl _ _)) (.inr (.inr hgL)) _) (.inr (.inr hgL)) _)
      · have e1 : ldE ws place = 2 := by rw [ldE, if_neg hi]
        go_wp2_with fail
        refine (LoadL _ hM5 _ hn).mono ?_
        rintro e w6 ⟨rfl, hM6, hf6⟩
        rw [e1, ← HX.out]
        have hB6 := Fr.keep hf6 hB5 hgM
        have C6 := hB6.cells
        have F6 := hB6.free
        clear e1 C5 F5
        go_wp2_with fail
        go_ret
        rw [show r = (⟨true, place, i, wv, 0, nn, 5⟩, ws, ldN c ws place) from HR.out.trans (by simp only [mstep, if_neg (Int.not_lt.2 HN.out), if_neg hi]; rfl)]
        exact HEND.out (re L w5 kM) ⟨true, place, i, wv, 0, nn, 5⟩ _ _ _ (ext_re' hF5.size) ⟨k0, k1, k2, k3, k4, k5⟩ rfl hB6 (fun e => by cases e) hM6 ((FrL.ofNo (S := fun k => k = kM ∨ k = kX) hF5).then (hf6.mono (fun i hi => .inl hi)) (Ext.refl _ _))
end Go.Proofs.Ytfglpigoljclbaa.H
