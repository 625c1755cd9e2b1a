/- hatstandref7: Machine.Step. -/
import Derived.Test.YtfglpigoljclbaaHRef7G
set_option linter.unusedVariables false
set_option linter.unusedSimpArgs false
namespace Go.Proofs.Ytfglpigoljclbaa.H
open Go.RowKit
attribute [local go_sem ↓] Go.wp_at_zero Go.wp_at_succ
variable {w w' a b : World} {S T : Nat → Prop} {g gm k c kM kX : Nat} {ws : List Int} {m : Mch} {n s h t : Int} {L L' : Nat → Nat}

/-- Ahead of it other blocks of the two owners were written. -/
theorem RPost.pre {w2 : World} {r : Mch × List Int × Nat} {e : Ending} (hf : FrL L (fun k => k = kM ∨ k = kX) w w2) (H : RPost L w2 kM kX g gm n s h t r e w') : RPost L w kM kX g gm n s h t r e w' := by
  obtain ⟨h1, L', h2, h3, h4, h5⟩ := H
  exact ⟨h1, L', fun i hi => h2 i (Nat.lt_of_lt_of_le hi hf.size), h3, h4, hf.then h5 (Ext.refl _ _)⟩


set_option maxHeartbeats 4000000 in
theorem RStep0T (w : World) (place i wv nx mw nn : Int) (hB : Blk w g (rcells n s h t place false i 0 wv nx 0) 119) (hgL : L g = kX) (hk : kX ≠ kM)
    (hM : RefAt w (Lab L w kM) gm ws c) (hn : c ≤ 1000000) (hw : Words ws) (hok : Mch.ok ⟨false, place, i, mw, 0, nn, 0⟩) :
    Calls Try.prog 40 #[.pointer (some ⟨g, 0, none⟩), .pointer (some ⟨gm, 0, none⟩)] w (RPost L w kM kX g gm n s h t (mstep n s h ⟨false, place, i, mw, 0, nn, 0⟩ ws c)) := by
  have hB0 : Blk w g #[.int .i64 n, .int .i64 s, .int .i64 h, .int .u32 t, .int .i64 place, .bool false, .int .u32 i, .int .i64 0, .int .u64 wv, .int .u32 nx, .int .i64 0] 119 := hB
  have C := hB0.cells
  have F := hB0.free
  have hf2 : FrL L (fun k => k = kM ∨ k = kX) w (w.setCell ⟨g, 7, none⟩ (.int .i64 1)) := Fr.setCell (Fr.refl _ w) (.inr (.inr hgL)) _
  have K := Lib.hid ((rfirstT_ (w.setCell ⟨g, 7, none⟩ (.int .i64 1)) place i wv nx mw nn (hB0.set 7 (.int .i64 1)) hgL hk (hM.setX hgL hk 7 _) hn hw hok).mono fun e w' H => RPost.pre hf2 H)
  clear hB hM hok hf2
  go_enter Try.func40, Try.ntmps40
  go_wp2_with fail
  refine K.out.mono ?_
  rintro e w1 ⟨rfl, h1⟩
  go_wp2_with fail
  go_ret2
  exact ⟨rfl, h1⟩

set_option maxHeartbeats 4000000 in
theorem RStep0G (w : World) (place i wv nx mw nn : Int) (hB : Blk w g (rcells n s h t place true i 0 wv nx 0) 119) (hgL : L g = kX) (hk : kX ≠ kM)
    (hM : RefAt w (Lab L w kM) gm ws c) (hn : c ≤ 1000000) (hw : Words ws) (hok : Mch.ok ⟨true, place, i, mw, 0, nn, 0⟩) :
    Calls Try.prog 40 #[.pointer (some ⟨g, 0, none⟩), .pointer (some ⟨gm, 0, none⟩)] w (RPost L w kM kX g gm n s h t (mstep n s h ⟨true, place, i, mw, 0, nn, 0⟩ ws c)) := by
  have hB0 : Blk w g #[.int .i64 n, .int .i64 s, .int .i64 h, .int .u32 t, .int .i64 place, .bool true, .int .u32 i, .int .i64 0, .int .u64 wv, .int .u32 nx, .int .i64 0] 119 := hB
  have C := hB0.cells
  have F := hB0.free
  have hf2 : FrL L (fun k => k = kM ∨ k = kX) w (w.setCell ⟨g, 7, none⟩ (.int .i64 1)) := Fr.setCell (Fr.refl _ w) (.inr (.inr hgL)) _
  have K := Lib.hid ((rfirstG_ (w.setCell ⟨g, 7, none⟩ (.int .i64 1)) place i wv nx mw nn (hB0.set 7 (.int .i64 1)) hgL hk (hM.setX hgL hk 7 _) hn hw hok).mono fun e w' H => RPost.pre hf2 H)
  clear hB hM hok hf2
  go_enter Try.func40, Try.ntmps40
  go_wp2_with fail
  refine K.out.mono ?_
  rintro e w1 ⟨rfl, h1⟩
  go_wp2_with fail
  go_ret2
  exact ⟨rfl, h1⟩


set_option maxHeartbeats 4000000 in
theorem RStep1T (w : World) (place i wv nx nn : Int) (hB : Blk w g (rcells n s h t place false i 1 wv nx 0) 119) (hgL : L g = kX) (hk : kX ≠ kM)
    (hM : RefAt w (Lab L w kM) gm ws c) (hn : c ≤ 1000000) (hw : Words ws) (hok : Mch.ok ⟨false, place, i, wv, 1, nn, 0⟩) :
    Calls Try.prog 40 #[.pointer (some ⟨g, 0, none⟩), .pointer (some ⟨gm, 0, none⟩)] w (RPost L w kM kX g gm n s h t (mstep n s h ⟨false, place, i, wv, 1, nn, 0⟩ ws c)) := by
  have hgM : ¬ L g = kM := by rw [hgL]; exact hk
  obtain ⟨y, hy⟩ : ∃ y, y = nextAt n s h i := ⟨_, rfl⟩
  obtain ⟨x, hx⟩ : ∃ x, x = ldV ws y := ⟨_, rfl⟩
  have hxi := ldV_in hw y
  rw [← hx] at hxi
  obtain ⟨x0, x1⟩ := hxi
  obtain ⟨k0, k1, k2, k3, k4, k5⟩ := hok
  simp only at k0 k1 k2 k3 k4 k5
  have hB0 : Blk w g #[.int .i64 n, .int .i64 s, .int .i64 h, .int .u32 t, .int .i64 place, .bool false, .int .u32 i, .int .i64 1, .int .u64 wv, .int .u32 nx, .int .i64 0] 119 := hB
  have hBl := hB.lt
  obtain ⟨r, hr⟩ : ∃ r, r = mstep n s h ⟨false, place, i, wv, 1, nn, 0⟩ ws c := ⟨_, rfl⟩
  rw [← hr]
  have HR := Lib.hid hr
  have HX := Lib.hid hx
  have HY := Lib.hid hy
  have HB2 := Lib.hid (hB0.set 7 (.int .i64 2))
  have HM2 := Lib.hid (hM.setX hgL hk 7 (.int .i64 2))
  have HF2 : Hid (FrL L (fun k => k = kM ∨ k = kX) w (w.setCell ⟨g, 7, none⟩ (.int .i64 2))) := Lib.hid (Fr.setCell (Fr.refl _ w) (.inr (.inr hgL)) _)
  clear hr hx hy hB hM
  have C := hB0.cells
  have F := hB0.free
  go_enter Try.func40, Try.ntmps40
  go_wp2_with fail
  have hB2 := HB2.out
  have hM2 := HM2.out
  have hF2 := HF2.out
  generalize hw2 : w.setCell ⟨g, 7, none⟩ (.int .i64 2) = w2 at hB2 hM2 hF2 ⊢
  have hB2 : Blk w2 g #[.int .i64 n, .int .i64 s, .int .i64 h, .int .u32 t, .int .i64 place, .bool false, .int .u32 i, .int .i64 2, .int .u64 wv, .int .u32 nx, .int .i64 0] 119 := hB2
  have C2 := hB2.cells
  have q0 := C2 0
  have q1 := C2 1
  have q2 := C2 2
  have q3 := C2 3
  have q6 := C2 6
  simp at q0 q1 q2 q3 q6
  have hl2 := hB2.lt
  clear C F C2 hw2 HB2 HM2 HF2
  by_cases hi : inR ws y
  · have e1 : ldE ws y = 0 := by rw [ldE, if_pos hi]
    have E1 := Lib.hid e1
    clear e1
    go_region_held3 (fun w' => w'.cell? ⟨g, 0, none⟩ = some (.int .i64 n) ∧ w'.cell? ⟨g, 1, none⟩ = some (.int .i64 s) ∧ w'.cell? ⟨g, 2, none⟩ = some (.int .i64 h) ∧ w'.cell? ⟨g, 3, none⟩ = some (.int .u32 t) ∧ w'.cell? ⟨g, 6, none⟩ = some (.int .u32 i)) (first | (go_keep; done) | (go_split_ands; (repeat' apply And.intro) <;> first | assumption | (refine (Fr.cell (S := No) (by assumption) (by first | (simp; done) | (simp; omega) | omega) id).trans ?_; first | assumption | (simp; done) | (simp; assumption)) | (refine (Fr.frozen (S := No) (by assumption) (by first | (simp; done) | (simp; omega) | omega) id).trans ?_; first | assumption | (simp; done) | (simp; assumption))))
      (first | ((go_at_call 73; refine (RNext6_ _ _ _ _ _ _ k0 k1).mono ?_; rintro e w5 ⟨rfl, hf5⟩; have hB5 := hf5.keepNo hB2.drew; have C5 := hB5.cells; have hF5 := ((Fr.refl No w2).drew).then hf5; have hM5 := hM2.no hF5; rw [← HY.out])) | ((go_at_call 75; refine (RLoadL _ hM5 _ hn).mono ?_; rintro e w6 ⟨rfl, hM6, hf6⟩; have hB6 := Fr.keep hf6 hB5 hgM; have C6 := hB6.cells; have F6 := hB6.free; rw [← HX.out, E1.out])))
    all_goals
      clear C5
      go_wp2_with fail
      refine (RIndex_ _ _ x0 x1).mono ?_
      rintro e w7 ⟨rfl, rfl⟩
      go_wp2_with fail
      go_ret2
      have hre : re L w5 kM g = kX := by rw [re, if_pos hB5.lt]; exact hgL
      rw [show r = (⟨false, place, i, wv, 2, x, 0⟩, ws, ldN c ws y) from HR.out.trans (by simp only [mstep, ← HY.out, if_pos hi, ← HX.out]; rfl)]
      have hB7 := hB6.set 9 (.int .u32 (x % 4294967296))
      exact ⟨rfl, re L w5 kM, ext_re' (Nat.le_trans hF2.size hF5.size), ⟨⟨hre, hB7.lt⟩, ⟨k0, k1, k2, k3, x0, x1⟩, i, 2, wv, x % 4294967296, hB7, fun _ => rfl, fun _ => ⟨rfl, rfl, Nat.le_refl _, fun _ => rfl, fun _ => rfl⟩⟩, hM6.setX hre hk 9 _,
        Fr.setCell ((hF2.then (FrL.ofNo (S := fun k => k = kM ∨ k = kX) hF5) (Ext.refl _ _)).then (hf6.mono (fun i hi => .inl hi)) (Ext.refl _ _)) (.inr (.inr hgL)) _⟩
  · have e1 : ldE ws y = 2 := by rw [ldE, if_neg hi]
    have E1 := Lib.hid e1
    clear e1
    go_region_held3 (fun w' => w'.cell? ⟨g, 0, none⟩ = some (.int .i64 n) ∧ w'.cell? ⟨g, 1, none⟩ = some (.int .i64 s) ∧ w'.cell? ⟨g, 2, none⟩ = some (.int .i64 h) ∧ w'.cell? ⟨g, 3, none⟩ = some (.int .u32 t) ∧ w'.cell? ⟨g, 6, none⟩ = some (.int .u32 i)) (first | (go_keep; done) | (go_split_ands; (repeat' apply And.intro) <;> first | assumption | (refine (Fr.cell (S := No) (by assumption) (by first | (simp; done) | (simp; omega) | omega) id).trans ?_; first | assumption | (simp; done) | (simp; assumption)) | (refine (Fr.frozen (S := No) (by assumption) (by first | (simp; done) | (simp; omega) | omega) id).trans ?_; first | assumption | (simp; done) | (simp; assumption))))
      (first | ((go_at_call 73; refine (RNext6_ _ _ _ _ _ _ k0 k1).mono ?_; rintro e w5 ⟨rfl, hf5⟩; have hB5 := hf5.keepNo hB2.drew; have C5 := hB5.cells; have hF5 := ((Fr.refl No w2).drew).then hf5; have hM5 := hM2.no hF5; rw [← HY.out])) | ((go_at_call 75; refine (RLoadL _ hM5 _ hn).mono ?_; rintro e w6 ⟨rfl, hM6, hf6⟩; have hB6 := Fr.keep hf6 hB5 hgM; have C6 := hB6.cells; have F6 := hB6.free; rw [← HX.out, E1.out])))
    all_goals
      clear C5
      go_wp2_with fail
      refine (RIndex_ _ _ x0 x1).mono ?_
      rintro e w7 ⟨rfl, rfl⟩
      have HB7 := Lib.hid (hB6.set 9 (.int .u32 (x % 4294967296)))
      have hre : re L w5 kM g = kX := by rw [re, if_pos hB5.lt]; exact hgL
      have HM7 := Lib.hid (hM6.setX hre hk 9 (.int .u32 (x % 4294967296)))
      have HF7 : Hid (FrL L (fun k => k = kM ∨ k = kX) w (w6.setCell ⟨g, 9, none⟩ (.int .u32 (x % 4294967296)))) := Lib.hid (Fr.setCell ((hF2.then (FrL.ofNo (S := fun k => k = kM ∨ k = kX) hF5) (Ext.refl _ _)).then (hf6.mono (fun i hi => .inl hi)) (Ext.refl _ _)) (.inr (.inr hgL)) _)
      go_wp2_with fail
      refine (rend_ _ place false i 2 wv (x % 4294967296) 0 5 HB7.out).mono ?_
      rintro e w8 ⟨rfl, hB8, hf8⟩
      go_wp2_with fail
      go_ret2
      rw [show r = (⟨false, place, i, wv, 1, nn, 5⟩, ws, ldN c ws y) from HR.out.trans (by simp only [mstep, ← HY.out, if_neg hi]; rfl)]
      exact rend_post hgL hk (ext_re' (Nat.le_trans hF2.size hF5.size)) hBl HF7.out HM7.out hB8 hf8 (by decide) rfl rfl rfl (fun e => by cases e) ⟨k0, k1, k2, k3, k4, k5⟩

set_option maxHeartbeats 4000000 in
theorem RStep1G (w : World) (place i wv nx nn : Int) (hB : Blk w g (rcells n s h t place true i 1 wv nx 0) 119) (hgL : L g = kX) (hk : kX ≠ kM)
    (hM : RefAt w (Lab L w kM) gm ws c) (hn : c ≤ 1000000) (hw : Words ws) (hok : Mch.ok ⟨true, place, i, wv, 1, nn, 0⟩) :
    Calls Try.prog 40 #[.pointer (some ⟨g, 0, none⟩), .pointer (some ⟨gm, 0, none⟩)] w (RPost L w kM kX g gm n s h t (mstep n s h ⟨true, place, i, wv, 1, nn, 0⟩ ws c)) := by
  have hgM : ¬ L g = kM := by rw [hgL]; exact hk
  obtain ⟨y, hy⟩ : ∃ y, y = nextAt n s h i := ⟨_, rfl⟩
  obtain ⟨k0, k1, k2, k3, k4, k5⟩ := hok
  simp only at k0 k1 k2 k3 k4 k5
  have hB0 : Blk w g #[.int .i64 n, .int .i64 s, .int .i64 h, .int .u32 t, .int .i64 place, .bool true, .int .u32 i, .int .i64 1, .int .u64 wv, .int .u32 nx, .int .i64 0] 119 := hB
  have hBl := hB.lt
  obtain ⟨r, hr⟩ : ∃ r, r = mstep n s h ⟨true, place, i, wv, 1, nn, 0⟩ ws c := ⟨_, rfl⟩
  rw [← hr]
  have HR := Lib.hid hr
  have HY := Lib.hid hy
  have HB2 := Lib.hid (hB0.set 7 (.int .i64 2))
  have HM2 := Lib.hid (hM.setX hgL hk 7 (.int .i64 2))
  have HF2 : Hid (FrL L (fun k => k = kM ∨ k = kX) w (w.setCell ⟨g, 7, none⟩ (.int .i64 2))) := Lib.hid (Fr.setCell (Fr.refl _ w) (.inr (.inr hgL)) _)
  clear hr hy hB hM
  have C := hB0.cells
  have F := hB0.free
  go_enter Try.func40, Try.ntmps40
  go_wp2_with fail
  have hB2 := HB2.out
  have hM2 := HM2.out
  have hF2 := HF2.out
  generalize hw2 : w.setCell ⟨g, 7, none⟩ (.int .i64 2) = w2 at hB2 hM2 hF2 ⊢
  have hB2 : Blk w2 g #[.int .i64 n, .int .i64 s, .int .i64 h, .int .u32 t, .int .i64 place, .bool true, .int .u32 i, .int .i64 2, .int .u64 wv, .int .u32 nx, .int .i64 0] 119 := hB2
  have C2 := hB2.cells
  have q0 := C2 0
  have q1 := C2 1
  have q2 := C2 2
  have q3 := C2 3
  have q6 := C2 6
  have q8 := C2 8
  simp at q0 q1 q2 q3 q6 q8
  have hl2 := hB2.lt
  clear C F C2 hw2 HB2 HM2 HF2
  have e7 : IntKind.u64.wrap (wv % 4294967296) = wv % 4294967296 := by simp [IntKind.wrap, IntKind.bits, IntKind.signed]; omega
  by_cases hi : inR ws y
  · have e1 : ldE ws y = 0 := by rw [ldE, if_pos hi]
    have E1 := Lib.hid e1
    clear e1
    go_region_held3 (fun w' => w'.cell? ⟨g, 0, none⟩ = some (.int .i64 n) ∧ w'.cell? ⟨g, 1, none⟩ = some (.int .i64 s) ∧ w'.cell? ⟨g, 2, none⟩ = some (.int .i64 h) ∧ w'.cell? ⟨g, 3, none⟩ = some (.int .u32 t) ∧ w'.cell? ⟨g, 6, none⟩ = some (.int .u32 i) ∧ w'.cell? ⟨g, 8, none⟩ = some (.int .u64 wv)) (first | (go_keep; done) | (go_split_ands; (repeat' apply And.intro) <;> first | assumption | (refine (Fr.cell (S := No) (by assumption) (by first | (simp; done) | (simp; omega) | omega) id).trans ?_; first | assumption | (simp; done) | (simp; assumption)) | (refine (Fr.frozen (S := No) (by assumption) (by first | (simp; done) | (simp; omega) | omega) id).trans ?_; first | assumption | (simp; done) | (simp; assumption))))
      (first | ((go_at_call 73; refine (RNext6_ _ _ _ _ _ _ k0 k1).mono ?_; rintro e w5 ⟨rfl, hf5⟩; have hB5 := hf5.keepNo hB2.drew; have C5 := hB5.cells; have hF5 := ((Fr.refl No w2).drew).then hf5; have hM5 := hM2.no hF5; rw [← HY.out])) | ((go_at_call 74; refine (RIndex_ _ _ k2 k3).mono ?_; rintro e w9 ⟨rfl, rfl⟩)) | ((go_at_call 72; refine (RStoreL _ hM5 _ _ hn).mono ?_; rintro e w6 ⟨rfl, hM6, hf6⟩; have hB6 := Fr.keep hf6 hB5 hgM; have C6 := hB6.cells; have F6 := hB6.free; rw [E1.out])))
    all_goals
      clear C5
      go_wp2_with fail
      go_ret2
      have hre : re L w5 kM g = kX := by rw [re, if_pos hB5.lt]; exact hgL
      rw [show r = (⟨true, place, i, wv, 2, nn, 0⟩, stW ws y (wv % 4294967296), ldN c ws y) from HR.out.trans (by simp only [mstep, ← HY.out, if_pos hi]; rfl)]
      have hB7 := hB6.set 9 (.int .u32 i)
      exact ⟨rfl, re L w5 kM, ext_re' (Nat.le_trans hF2.size hF5.size), ⟨⟨hre, hB7.lt⟩, ⟨k0, k1, k2, k3, k4, k5⟩, i, 2, wv, i, hB7, fun _ => rfl, fun _ => ⟨rfl, rfl, Nat.le_refl _, fun _ => rfl, fun _ => rfl⟩⟩, hM6.setX hre hk 9 _,
        Fr.setCell ((hF2.then (FrL.ofNo (S := fun k => k = kM ∨ k = kX) hF5) (Ext.refl _ _)).then (hf6.mono (fun i hi => .inl hi)) (Ext.refl _ _)) (.inr (.inr hgL)) _⟩
  · have e1 : ldE ws y = 2 := by rw [ldE, if_neg hi]
    have E1 := Lib.hid e1
    clear e1
    go_region_held3 (fun w' => w'.cell? ⟨g, 0, none⟩ = some (.int .i64 n) ∧ w'.cell? ⟨g, 1, none⟩ = some (.int .i64 s) ∧ w'.cell? ⟨g, 2, none⟩ = some (.int .i64 h) ∧ w'.cell? ⟨g, 3, none⟩ = some (.int .u32 t) ∧ w'.cell? ⟨g, 6, none⟩ = some (.int .u32 i) ∧ w'.cell? ⟨g, 8, none⟩ = some (.int .u64 wv)) (first | (go_keep; done) | (go_split_ands; (repeat' apply And.intro) <;> first | assumption | (refine (Fr.cell (S := No) (by assumption) (by first | (simp; done) | (simp; omega) | omega) id).trans ?_; first | assumption | (simp; done) | (simp; assumption)) | (refine (Fr.frozen (S := No) (by assumption) (by first | (simp; done) | (simp; omega) | omega) id).trans ?_; first | assumption | (simp; done) | (simp; assumption))))
      (first | ((go_at_call 73; refine (RNext6_ _ _ _ _ _ _ k0 k1).mono ?_; rintro e w5 ⟨rfl, hf5⟩; have hB5 := hf5.keepNo hB2.drew; have C5 := hB5.cells; have hF5 := ((Fr.refl No w2).drew).then hf5; have hM5 := hM2.no hF5; rw [← HY.out])) | ((go_at_call 74; refine (RIndex_ _ _ k2 k3).mono ?_; rintro e w9 ⟨rfl, rfl⟩)) | ((go_at_call 72; refine (RStoreL _ hM5 _ _ hn).mono ?_; rintro e w6 ⟨rfl, hM6, hf6⟩; have hB6 := Fr.keep hf6 hB5 hgM; have C6 := hB6.cells; have F6 := hB6.free; rw [E1.out])))
    all_goals
      clear C5
      have HB7 := Lib.hid (hB6.set 9 (.int .u32 i))
      have hre : re L w5 kM g = kX := by rw [re, if_pos hB5.lt]; exact hgL
      rw [stW, if_neg hi] at hM6
      have HM7 := Lib.hid (hM6.setX hre hk 9 (.int .u32 i))
      have HF7 : Hid (FrL L (fun k => k = kM ∨ k = kX) w (w6.setCell ⟨g, 9, none⟩ (.int .u32 i))) := Lib.hid (Fr.setCell ((hF2.then (FrL.ofNo (S := fun k => k = kM ∨ k = kX) hF5) (Ext.refl _ _)).then (hf6.mono (fun i hi => .inl hi)) (Ext.refl _ _)) (.inr (.inr hgL)) _)
      go_wp2_with fail
      refine (rend_ _ place true i 2 wv i 0 5 HB7.out).mono ?_
      rintro e w8 ⟨rfl, hB8, hf8⟩
      go_wp2_with fail
      go_ret2
      rw [show r = (⟨true, place, i, wv, 1, nn, 5⟩, ws, ldN c ws y) from HR.out.trans (by simp only [mstep, ← HY.out, if_neg hi]; rfl)]
      exact rend_post hgL hk (ext_re' (Nat.le_trans hF2.size hF5.size)) hBl HF7.out HM7.out hB8 hf8 (by decide) rfl rfl rfl (fun e => by cases e) ⟨k0, k1, k2, k3, k4, k5⟩
end Go.Proofs.Ytfglpigoljclbaa.H
