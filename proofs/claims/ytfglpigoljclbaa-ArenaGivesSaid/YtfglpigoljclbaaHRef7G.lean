/- hatstandref7: Machine.first of a Give. -/
import Derived.Test.YtfglpigoljclbaaHRef7F
set_option linter.unusedVariables false
set_option linter.unusedSimpArgs false
namespace Go.Proofs.Ytfglpigoljclbaa.H
open Go.RowKit
attribute [local go_sem ↓] Go.wp_at_zero Go.wp_at_succ
variable {w w' a b : World} {S T : Nat → Prop} {g gm k c kM kX : Nat} {ws : List Int} {m : Mch} {n s h t : Int} {L L' : Nat → Nat}

set_option maxHeartbeats 4000000 in
theorem rfirstG_ (w : World) (place i wv nx mw nn : Int) (hB : Blk w g (rcells n s h t place true i 1 wv nx 0) 119) (hgL : L g = kX) (hk : kX ≠ kM)
    (hM : RefAt w (Lab L w kM) gm ws c) (hn : c ≤ 1000000) (hw : Words ws) (hok : Mch.ok ⟨true, place, i, mw, 0, nn, 0⟩) :
    Calls Try.prog 71 #[.pointer (some ⟨g, 0, none⟩), .pointer (some ⟨gm, 0, none⟩)] w (RPost L w kM kX g gm n s h t (mstep n s h ⟨true, place, i, mw, 0, nn, 0⟩ ws c)) := by
  have hgM : ¬ L g = kM := by rw [hgL]; exact hk
  obtain ⟨x, hx⟩ : ∃ x, x = ldV ws place := ⟨_, rfl⟩
  have hxi := ldV_in hw place
  rw [← hx] at hxi
  obtain ⟨x0, x1⟩ := hxi
  have HX := Lib.hid hx
  have HM := Lib.hid hM
  obtain ⟨k0, k1, k2, k3, k4, k5⟩ := hok
  simp only at k0 k1 k2 k3 k4 k5
  have hB0 : Blk w g #[.int .i64 n, .int .i64 s, .int .i64 h, .int .u32 t, .int .i64 place, .bool true, .int .u32 i, .int .i64 1, .int .u64 wv, .int .u32 nx, .int .i64 0] 119 := hB
  have hBl := hB.lt
  obtain ⟨r, hr⟩ : ∃ r, r = mstep n s h ⟨true, place, i, mw, 0, nn, 0⟩ ws c := ⟨_, rfl⟩
  rw [← hr]
  have HR := Lib.hid hr
  clear hx hM hr hB
  have C := hB0.cells
  have q0 := C 0
  have q1 := C 1
  have q2 := C 2
  have q3 := C 3
  have q5 := C 5
  have q6 := C 6
  simp at q0 q1 q2 q3 q5 q6
  clear C
  go_enter Try.func71, Try.ntmps71
  go_wp2_with fail
  by_cases hneg : nextAt n s h i < 0
  · go_region_held3 (fun w' => w'.cell? ⟨g, 0, none⟩ = some (.int .i64 n) ∧ w'.cell? ⟨g, 1, none⟩ = some (.int .i64 s) ∧ w'.cell? ⟨g, 2, none⟩ = some (.int .i64 h) ∧ w'.cell? ⟨g, 3, none⟩ = some (.int .u32 t) ∧ w'.cell? ⟨g, 5, none⟩ = some (.bool true) ∧ w'.cell? ⟨g, 6, none⟩ = some (.int .u32 i)) (first | (go_keep; done) | (go_split_ands; (repeat' apply And.intro) <;> first | assumption | (refine (Fr.cell (S := No) (by assumption) (by first | (simp; done) | (simp; omega) | omega) id).trans ?_; first | assumption | (simp; done) | (simp; assumption)) | (refine (Fr.frozen (S := No) (by assumption) (by first | (simp; done) | (simp; omega) | omega) id).trans ?_; first | assumption | (simp; done) | (simp; assumption))))
      ((go_at_call 73; refine (RNext6_ _ _ _ _ _ _ k0 k1).mono ?_; rintro e w5 ⟨rfl, hf5⟩; have hB5 := hf5.keepNo hB0.drew; have hF5 := ((Fr.refl No w).drew).then hf5; have hM5 := HM.out.no hF5))
    all_goals
      go_wp2_with fail
      refine (rend_ _ place true i 1 wv nx 0 5 hB5).mono ?_
      rintro e w6 ⟨rfl, hB6, hf6⟩
      go_wp2_with fail
      go_ret2
      rw [show r = (⟨true, place, i, mw, 0, nn, 5⟩, ws, c) from HR.out.trans (by simp only [mstep, if_pos hneg]; rfl)]
      exact rend_post hgL hk (Ext.refl _ _) hBl (FrL.ofNo hF5) hM5 hB6 hf6 (by decide) rfl rfl rfl (fun e => by cases e) ⟨k0, k1, k2, k3, k4, k5⟩
  · have hneg' : ¬ nextAt n s h i < 0 := by omega
    have HN := Lib.hid hneg'
    go_region_held3 (fun w' => w'.cell? ⟨g, 0, none⟩ = some (.int .i64 n) ∧ w'.cell? ⟨g, 1, none⟩ = some (.int .i64 s) ∧ w'.cell? ⟨g, 2, none⟩ = some (.int .i64 h) ∧ w'.cell? ⟨g, 3, none⟩ = some (.int .u32 t) ∧ w'.cell? ⟨g, 5, none⟩ = some (.bool true) ∧ w'.cell? ⟨g, 6, none⟩ = some (.int .u32 i)) (first | (go_keep; done) | (go_split_ands; (repeat' apply And.intro) <;> first | assumption | (refine (Fr.cell (S := No) (by assumption) (by first | (simp; done) | (simp; omega) | omega) id).trans ?_; first | assumption | (simp; done) | (simp; assumption)) | (refine (Fr.frozen (S := No) (by assumption) (by first | (simp; done) | (simp; omega) | omega) id).trans ?_; first | assumption | (simp; done) | (simp; assumption))))
      ((go_at_call 73; refine (RNext6_ _ _ _ _ _ _ k0 k1).mono ?_; rintro e w5 ⟨rfl, hf5⟩; have hB5 := hf5.keepNo hB0.drew; have C5 := hB5.cells; have F5 := hB5.free; have hF5 := ((Fr.refl No w).drew).then hf5; have hM5 := HM.out.no hF5))
    all_goals
      by_cases hi : inR ws place
      · have e1 : ldE ws place = 0 := by rw [ldE, if_pos hi]
        go_wp2_with fail
        refine (RLoadL _ hM5 _ hn).mono ?_
        rintro e w6 ⟨rfl, hM6, hf6⟩
        rw [e1, ← HX.out]
        have hB6 := Fr.keep hf6 hB5 hgM
        have C6 := hB6.cells
        have F6 := hB6.free
        clear e1 C5 F5
        have hre : re L w5 kM g = kX := by rw [re, if_pos hB5.lt]; exact hgL
        have hB7 := hB6.set 8 (.int .u64 x)
        have C7 := hB7.cells
        have p5 := C7 5
        simp at p5
        clear C7
        go_wp2_with fail
        go_ret2
        rw [show r = (⟨true, place, i, x, 1, nn, 0⟩, ws, ldN c ws place) from HR.out.trans (by simp only [mstep, if_neg (Int.not_lt.2 HN.out), if_pos hi, ← HX.out]; rfl)]
        exact ⟨rfl, re L w5 kM, ext_re' hF5.size, ⟨⟨hre, hB7.lt⟩, ⟨k0, k1, x0, x1, k4, k5⟩, i, 1, x, nx, hB7, fun _ => rfl, fun _ => ⟨rfl, rfl, by show (1 : Nat) ≤ 2; omega, fun _ => rfl, fun e => by cases e⟩⟩, hM6.setX hre hk 8 _,
          Fr.setCell ((FrL.ofNo (S := fun k => k = kM ∨ k = kX) hF5).then (hf6.mono (fun i hi => .inl hi)) (Ext.refl _ _)) (.inr (.inr hgL)) _⟩
      · have e1 : ldE ws place = 2 := by rw [ldE, if_neg hi]
        have e2 : x = 0 := by rw [HX.out, ldV, if_neg hi]
        go_wp2_with fail
        refine (RLoadL _ hM5 _ hn).mono ?_
        rintro e w6 ⟨rfl, hM6, hf6⟩
        rw [e1, ← HX.out, e2]
        have hB6 := Fr.keep hf6 hB5 hgM
        have C6 := hB6.cells
        have F6 := hB6.free
        clear e1 C5 F5
        have hre : re L w5 kM g = kX := by rw [re, if_pos hB5.lt]; exact hgL
        have HB7 := Lib.hid (hB6.set 8 (.int .u64 0))
        go_wp2_with fail
        refine (rend_ _ place true i 1 0 nx 0 5 HB7.out).mono ?_
        rintro e w7 ⟨rfl, hB8, hf8⟩
        go_wp2_with fail
        go_ret2
        rw [show r = (⟨true, place, i, mw, 0, nn, 5⟩, ws, ldN c ws place) from HR.out.trans (by simp only [mstep, if_neg (Int.not_lt.2 HN.out), if_neg hi]; rfl)]
        exact rend_post hgL hk (ext_re' hF5.size) hBl (Fr.setCell ((FrL.ofNo (S := fun k => k = kM ∨ k = kX) hF5).then (hf6.mono (fun i hi => .inl hi)) (Ext.refl _ _)) (.inr (.inr hgL)) _) (hM6.setX hre hk 8 _) hB8 hf8 (by decide) rfl rfl rfl (fun e => by cases e) ⟨k0, k1, k2, k3, k4, k5⟩
end Go.Proofs.Ytfglpigoljclbaa.H
