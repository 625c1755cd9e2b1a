/- hatstandref7: Machine.Step: the last step, an ended machine's, and any. -/
import Derived.Test.YtfglpigoljclbaaHRef7S
set_option linter.unusedVariables false
set_option linter.unusedSimpArgs false
namespace Go.Proofs.Ytfglpigoljclbaa.H
open Go.RowKit
attribute [local go_sem ↓] Go.wp_at_zero Go.wp_at_succ
variable {w w' a b : World} {S T : Nat → Prop} {g gm k c kM kX : Nat} {ws : List Int} {m : Mch} {n s h t : Int} {L L' : Nat → Nat}

set_option maxHeartbeats 4000000 in
theorem RStep2 (w : World) (gv : Bool) (place i wv nx nn : Int) (hB : Blk w g (rcells n s h t place gv i 2 wv nx 0) 119) (hgL : L g = kX) (hk : kX ≠ kM)
    (hM : RefAt w (Lab L w kM) gm ws c) (hn : c ≤ 1000000) (hw : Words ws) (hok : Mch.ok ⟨gv, place, i, wv, 2, nn, 0⟩) (hnx : nx = Mch.first ⟨gv, place, i, wv, 2, nn, 0⟩) :
    Calls Try.prog 40 #[.pointer (some ⟨g, 0, none⟩), .pointer (some ⟨gm, 0, none⟩)] w (RPost L w kM kX g gm n s h t (mstep n s h ⟨gv, place, i, wv, 2, nn, 0⟩ ws c)) := by
  have hgM : ¬ L g = kM := by rw [hgL]; exact hk
  have hn0 : 0 ≤ nx ∧ nx < 4294967296 := by
    rw [hnx]
    obtain ⟨h1, h2, h3, h4, h5, h6⟩ := hok
    simp only at h1 h2
    unfold Mch.first
    simp only
    split
    · exact ⟨h1, h2⟩
    · omega
  obtain ⟨n0, n1⟩ := hn0
  obtain ⟨k0, k1, k2, k3, k4, k5⟩ := hok
  simp only at k0 k1 k2 k3 k4 k5
  have hB0 : Blk w g #[.int .i64 n, .int .i64 s, .int .i64 h, .int .u32 t, .int .i64 place, .bool gv, .int .u32 i, .int .i64 2, .int .u64 wv, .int .u32 nx, .int .i64 0] 119 := hB
  have hBl := hB.lt
  obtain ⟨r, hr⟩ : ∃ r, r = mstep n s h ⟨gv, place, i, wv, 2, nn, 0⟩ ws c := ⟨_, rfl⟩
  rw [← hr]
  have HR := Lib.hid hr
  have HN := Lib.hid hnx
  have HB2 := Lib.hid (hB0.set 7 (.int .i64 3))
  have HM2 := Lib.hid (hM.setX hgL hk 7 (.int .i64 3))
  have HF2 : Hid (FrL L (fun k => k = kM ∨ k = kX) w (w.setCell ⟨g, 7, none⟩ (.int .i64 3))) := Lib.hid (Fr.setCell (Fr.refl _ w) (.inr (.inr hgL)) _)
  clear hr hB hM hnx
  have C := hB0.cells
  have F := hB0.free
  go_enter Try.func40, Try.ntmps40
  go_wp2_with fail
  have hB2 := HB2.out
  have hM2 := HM2.out
  have hF2 := HF2.out
  generalize hw2 : w.setCell ⟨g, 7, none⟩ (.int .i64 3) = w2 at hB2 hM2 hF2 ⊢
  have hB2 : Blk w2 g #[.int .i64 n, .int .i64 s, .int .i64 h, .int .u32 t, .int .i64 place, .bool gv, .int .u32 i, .int .i64 3, .int .u64 wv, .int .u32 nx, .int .i64 0] 119 := hB2
  have C2 := hB2.cells
  have q4 := C2 4
  have q8 := C2 8
  have q9 := C2 9
  simp at q4 q8 q9
  have hl2 := hB2.lt
  clear C F C2 hw2 HB2 HM2 HF2
  obtain ⟨y, hy⟩ : ∃ y, y = nextWord wv nx := ⟨_, rfl⟩
  have HY := Lib.hid hy
  clear hy
  by_cases hi : inR ws place
  · have e1 : ldE ws place = 0 := by rw [ldE, if_pos hi]
    have E1 := Lib.hid e1
    clear e1
    by_cases hb : swB ws place wv = true
    · have HB := Lib.hid hb
      clear hb
      go_region_held3 (fun w' => w'.cell? ⟨g, 4, none⟩ = some (.int .i64 place) ∧ w'.cell? ⟨g, 8, none⟩ = some (.int .u64 wv) ∧ w'.cell? ⟨g, 9, none⟩ = some (.int .u32 nx)) (first | (go_keep; done) | (go_split_ands; (repeat' apply And.intro) <;> first | assumption | (refine (Fr.cell (S := No) (by assumption) (by first | (simp; done) | (simp; omega) | omega) id).trans ?_; first | assumption | (simp; done) | (simp; assumption)) | (refine (Fr.frozen (S := No) (by assumption) (by first | (simp; done) | (simp; omega) | omega) id).trans ?_; first | assumption | (simp; done) | (simp; assumption))))
        (first | ((go_at_call 77; refine (RNext1_ _ _ _ k2 k3 n0 n1).mono ?_; rintro e w5 ⟨rfl, rfl⟩; rw [← HY.out]; have hB5 := hB2.drew; have hF5 := (Fr.refl No w2).drew; have hM5 := hM2.no hF5)) | ((go_at_call 76; refine (RSwapL _ hM5 _ _ _ hn).mono ?_; rintro e w6 ⟨rfl, hM6, hf6⟩; have hB6 := Fr.keep hf6 hB5 hgM; have C6 := hB6.cells; rw [E1.out, HB.out])))
      all_goals
        go_wp2_with fail
        have hre : re L w2.drew kM g = kX := by rw [re, if_pos hB5.lt]; exact hgL
        refine (rend_ _ place gv i 3 wv nx 0 1 hB6).mono ?_
        rintro e w8 ⟨rfl, hB8, hf8⟩
        go_wp2_with fail
        go_ret2
        rw [show r = (⟨gv, place, i, wv, 2, nn, 1⟩, swW ws place wv y, ldN c ws place) from HR.out.trans (by simp only [mstep, if_pos hi, if_pos HB.out, HY.out, HN.out])]
        exact rend_post hgL hk (ext_re' (Nat.le_trans hF2.size hF5.size)) hBl ((hF2.then (FrL.ofNo (S := fun k => k = kM ∨ k = kX) hF5) (Ext.refl _ _)).then (hf6.mono (fun i hi => .inl hi)) (Ext.refl _ _)) hM6 hB8 hf8 (by decide) rfl rfl rfl (fun e => rfl) ⟨k0, k1, k2, k3, k4, k5⟩
    · have hb' : swB ws place wv = false := by simpa using hb
      have HB := Lib.hid hb'
      have HNB := Lib.hid hb
      clear hb hb'
      go_region_held3 (fun w' => w'.cell? ⟨g, 4, none⟩ = some (.int .i64 place) ∧ w'.cell? ⟨g, 8, none⟩ = some (.int .u64 wv) ∧ w'.cell? ⟨g, 9, none⟩ = some (.int .u32 nx)) (first | (go_keep; done) | (go_split_ands; (repeat' apply And.intro) <;> first | assumption | (refine (Fr.cell (S := No) (by assumption) (by first | (simp; done) | (simp; omega) | omega) id).trans ?_; first | assumption | (simp; done) | (simp; assumption)) | (refine (Fr.frozen (S := No) (by assumption) (by first | (simp; done) | (simp; omega) | omega) id).trans ?_; first | assumption | (simp; done) | (simp; assumption))))
        (first | ((go_at_call 77; refine (RNext1_ _ _ _ k2 k3 n0 n1).mono ?_; rintro e w5 ⟨rfl, rfl⟩; rw [← HY.out]; have hB5 := hB2.drew; have hF5 := (Fr.refl No w2).drew; have hM5 := hM2.no hF5)) | ((go_at_call 76; refine (RSwapL _ hM5 _ _ _ hn).mono ?_; rintro e w6 ⟨rfl, hM6, hf6⟩; have hB6 := Fr.keep hf6 hB5 hgM; have C6 := hB6.cells; rw [E1.out, HB.out])))
      all_goals
        go_wp2_with fail
        have hre : re L w2.drew kM g = kX := by rw [re, if_pos hB5.lt]; exact hgL
        rw [swW, if_neg HNB.out] at hM6
        refine (rend_ _ place gv i 3 wv nx 0 3 hB6).mono ?_
        rintro e w8 ⟨rfl, hB8, hf8⟩
        go_wp2_with fail
        go_ret2
        rw [show r = (⟨gv, place, i, wv, 2, nn, 3⟩, ws, ldN c ws place) from HR.out.trans (by simp only [mstep, if_pos hi, if_neg HNB.out])]
        exact rend_post hgL hk (ext_re' (Nat.le_trans hF2.size hF5.size)) hBl ((hF2.then (FrL.ofNo (S := fun k => k = kM ∨ k = kX) hF5) (Ext.refl _ _)).then (hf6.mono (fun i hi => .inl hi)) (Ext.refl _ _)) hM6 hB8 hf8 (by decide) rfl rfl rfl (fun e => by cases e) ⟨k0, k1, k2, k3, k4, k5⟩
  · have e1 : ldE ws place = 2 := by rw [ldE, if_neg hi]
    have E1 := Lib.hid e1
    have hb : ¬ swB ws place wv = true := by simp [swB, hi]
    have HNB := Lib.hid hb
    clear e1 hb
    go_region_held3 (fun w' => w'.cell? ⟨g, 4, none⟩ = some (.int .i64 place) ∧ w'.cell? ⟨g, 8, none⟩ = some (.int .u64 wv) ∧ w'.cell? ⟨g, 9, none⟩ = some (.int .u32 nx)) (first | (go_keep; done) | (go_split_ands; (repeat' apply And.intro) <;> first | assumption | (refine (Fr.cell (S := No) (by assumption) (by first | (simp; done) | (simp; omega) | omega) id).trans ?_; first | assumption | (simp; done) | (simp; assumption)) | (refine (Fr.frozen (S := No) (by assumption) (by first | (simp; done) | (simp; omega) | omega) id).trans ?_; first | assumption | (simp; done) | (simp; assumption))))
      (first | ((go_at_call 77; refine (RNext1_ _ _ _ k2 k3 n0 n1).mono ?_; rintro e w5 ⟨rfl, rfl⟩; rw [← HY.out]; have hB5 := hB2.drew; have hF5 := (Fr.refl No w2).drew; have hM5 := hM2.no hF5)) | ((go_at_call 76; refine (RSwapL _ hM5 _ _ _ hn).mono ?_; rintro e w6 ⟨rfl, hM6, hf6⟩; have hB6 := Fr.keep hf6 hB5 hgM; have C6 := hB6.cells; rw [E1.out])))
    all_goals
      go_wp2_with fail
      have hre : re L w2.drew kM g = kX := by rw [re, if_pos hB5.lt]; exact hgL
      rw [swW, if_neg HNB.out] at hM6
      refine (rend_ _ place gv i 3 wv nx 0 5 hB6).mono ?_
      rintro e w8 ⟨rfl, hB8, hf8⟩
      go_wp2_with fail
      go_ret2
      rw [show r = (⟨gv, place, i, wv, 2, nn, 5⟩, ws, ldN c ws place) from HR.out.trans (by simp only [mstep, if_neg hi])]
      exact rend_post hgL hk (ext_re' (Nat.le_trans hF2.size hF5.size)) hBl ((hF2.then (FrL.ofNo (S := fun k => k = kM ∨ k = kX) hF5) (Ext.refl _ _)).then (hf6.mono (fun i hi => .inl hi)) (Ext.refl _ _)) hM6 hB8 hf8 (by decide) rfl rfl rfl (fun e => by cases e) ⟨k0, k1, k2, k3, k4, k5⟩

theorem RStepE (w : World) (gv : Bool) (place i pc wv nx st : Int) (hB : Blk w g (rcells n s h t place gv i pc wv nx st) 119) (hst : ¬ st = 0) :
    Calls Try.prog 40 #[.pointer (some ⟨g, 0, none⟩), .pointer (some ⟨gm, 0, none⟩)] w fun e w' =>
      e = .returned (.tuple #[.int .i64 st, .int .u32 (if st = 1 then i else 0)]) ∧ Blk w' g (rcells n s h t place gv i pc wv nx st) 119 ∧ Fr (fun j => j = g) w w' := by
  have hB0 : Blk w g #[.int .i64 n, .int .i64 s, .int .i64 h, .int .u32 t, .int .i64 place, .bool gv, .int .u32 i, .int .i64 pc, .int .u64 wv, .int .u32 nx, .int .i64 st] 119 := hB
  have K := Lib.hid (rend_ w place gv i pc wv nx st st hB)
  have hs : (st != 0) = true := by simpa using hst
  have C := hB0.cells
  clear hB hB0
  obtain ⟨u, hu⟩ : ∃ u, u = if st = 1 then i else 0 := ⟨_, rfl⟩
  rw [← hu] at K ⊢
  clear hu
  go_enter Try.func40, Try.ntmps40
  go_wp2_with fail
  refine K.out.mono ?_
  rintro e w1 ⟨rfl, h1, h2⟩
  go_wp2_with fail
  go_ret2
  exact ⟨rfl, h1, h2⟩

theorem RStep_ (w : World) (H : RchAt w (Lab L w kX) g n s h t m) (hk : kX ≠ kM) (hM : RefAt w (Lab L w kM) gm ws c) (hn : c ≤ 1000000) (hw : Words ws) :
    Calls Try.prog 40 #[.pointer (some ⟨g, 0, none⟩), .pointer (some ⟨gm, 0, none⟩)] w (RPost L w kM kX g gm n s h t (mgo n s h m ws c)) := by
  obtain ⟨gv, place, i', wv', pc', nn, st⟩ := m
  obtain ⟨⟨hgL, _⟩, hok, i, pc, wv, nx, hB, h1, h2⟩ := H
  simp only at h1 h2 hB
  by_cases hst : st = 0
  · subst hst
    obtain ⟨rfl, rfl, h3, h4, h5⟩ := h2 rfl
    rw [mgo, if_pos rfl]
    obtain rfl | rfl | rfl : pc' = 0 ∨ pc' = 1 ∨ pc' = 2 := by omega
    · cases gv with
      | true => exact RStep0G w place i wv nx wv' nn hB hgL hk hM hn hw hok
      | false => exact RStep0T w place i wv nx wv' nn hB hgL hk hM hn hw hok
    · obtain rfl := h4 (Nat.le_refl _)
      cases gv with
      | true => exact RStep1G w place i wv nx nn hB hgL hk hM hn hw hok
      | false => exact RStep1T w place i wv nx nn hB hgL hk hM hn hw hok
    · obtain rfl := h4 (by omega)
      exact RStep2 w gv place i wv nx nn hB hgL hk hM hn hw hok (h5 rfl)
  · rw [mgo, if_neg hst]
    refine (RStepE w gv place i pc wv nx st hB hst).mono ?_
    rintro e w' ⟨rfl, hB2, hf2⟩
    exact rend_post (L' := L) hgL hk (Ext.refl _ _) hB.lt (Fr.refl _ _) hM hB2 hf2 hst rfl rfl rfl h1 hok
end Go.Proofs.Ytfglpigoljclbaa.H
