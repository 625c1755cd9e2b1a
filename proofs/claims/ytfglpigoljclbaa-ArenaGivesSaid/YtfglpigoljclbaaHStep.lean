/- taglist: the steps of a Take and of a Give. -/
import Derived.Test.YtfglpigoljclbaaHLab
set_option linter.unusedVariables false
set_option linter.unusedSimpArgs false
namespace Go.Proofs.Ytfglpigoljclbaa.H
open Go.RowKit
attribute [local go_sem ↓] Go.wp_at_zero Go.wp_at_succ
variable {w w' a b : World} {S T : Nat → Prop} {g gm k c kM kX : Nat} {ws : List Int} {m : Mch} {n s h t : Int} {L L' : Nat → Nat}

/-- How the last step ends. -/
def swSt (ws : List Int) (i o : Int) : Int := if inR ws i then (if swB ws i o then 1 else 3) else 5

theorem MemAt.no (H : MemAt w (Lab L w k) g ws c) (hf : Fr No w w') : MemAt w' (Lab L w' k) g ws c :=
  H.lab (S := fun _ => False) (FrL.ofNo hf) (Ext.refl _ _) id

set_option maxHeartbeats 2000000 in
theorem swap_ (w : World) {T : TypeId} {c0 c1 c2 c3 c5 f c8 : Value} {at' wv : Int} (hB : Blk w g #[c0, c1, c2, c3, .int .i64 at', c5, .int .u64 wv, f, c8] T) (hgM : ¬ L g = kM) (hM : MemAt w (Lab L w kM) gm ws c) (hn : c ≤ 1000000)
    (x : Int) (w0 : 0 ≤ wv) (w1 : wv < 18446744073709551616) (x0 : 0 ≤ x) (x1 : x < 4294967296) :
    Calls Try.prog 105 #[.pointer (some ⟨g, 0, none⟩), .pointer (some ⟨gm, 0, none⟩), .int .u32 x] w fun e w' => e = .returned (.int .i64 (swSt ws at' wv)) ∧
      ∃ L', Ext L L' w ∧ MemAt w' (Lab L' w' kM) gm (swW ws at' wv (nextWord wv x)) (ldN c ws at') ∧ FrL L (· = kM) w w' := by
  have C := hB.cells
  have hBl := hB.lt
  have kn4 := C 4
  have kn6 := C 6
  simp at kn4 kn6
  have HM := Lib.hid hM
  clear C hM
  go_enter Try.func105, Try.ntmps105
  go_wp2_with fail
  go_cut [7, 8] (fun v7 v8 wx => v7 = .bool (swB ws at' wv) ∧ v8 = .int .i64 (ldE ws at') ∧ ∃ L', Ext L L' w ∧ MemAt wx (Lab L' wx kM) gm (swW ws at' wv (nextWord wv x)) (ldN c ws at') ∧ FrL L (· = kM) w wx)
  case first =>
    go_region_held3 (fun w' => w'.cell? ⟨g, 4, none⟩ = some (.int .i64 at') ∧ w'.cell? ⟨g, 6, none⟩ = some (.int .u64 wv)) ((go_split_ands; (repeat' apply And.intro) <;> first | assumption | (refine (Fr.cell (S := No) (by assumption) (by first | assumption | (simp; done) | (simp; omega) | omega) id).trans ?_; first | assumption | (simp; done) | (simp; assumption)) | (refine (Fr.cell (S := fun i => L i = kM) (by assumption) (by first | assumption | (simp; done) | (simp; omega) | omega) (by exact hgM)).trans ?_; first | assumption | (simp; done) | (simp; assumption)) | (simp [*]; done)))
      (first | ((go_at_call 109; refine (Next_ _ _ _ w0 w1 x0 x1).mono ?_; rintro e w5 ⟨rfl, hf5⟩; have hM5 := HM.out.no (((Fr.refl No w).drew).then hf5); have l5 : g < w5.heap.size := Nat.lt_of_lt_of_le hBl hf5.size)) | ((go_at_call 108; refine (SwapL _ hM5 _ _ _ hn).mono ?_; rintro e w6 ⟨rfl, hM6, hf6⟩)))
    all_goals
      go_wp2_with fail
      go_meet
      exact ⟨rfl, rfl, _, ext_re' (by have := hf5.size; exact this), hM6, (FrL.ofNo (((Fr.refl No w).drew).then hf5)).then hf6 (Ext.refl _ _)⟩
  case rest =>
    obtain ⟨rfl, rfl, hM⟩ := hcut
    by_cases hi : inR ws at'
    · have e1 : ldE ws at' = 0 := by rw [ldE, if_pos hi]
      rw [e1]
      by_cases hb : swB ws at' wv = true
      · have e3 : swSt ws at' wv = 1 := by rw [swSt, if_pos hi, if_pos hb]
        rw [hb]
        clear e1
        go_wp2_with fail
        go_ret
        exact ⟨by rw [e3]; rfl, hM⟩
      · have e3 : swSt ws at' wv = 3 := by rw [swSt, if_pos hi, if_neg hb]
        have hb' : swB ws at' wv = false := by simpa using hb
        rw [hb']
        clear e1 hb
        go_wp2_with fail
        go_ret
        exact ⟨by rw [e3]; rfl, hM⟩
    · have e1 : ldE ws at' = 2 := by rw [ldE, if_neg hi]
      have e3 : swSt ws at' wv = 5 := by rw [swSt, if_neg hi]
      rw [e1]
      clear e1
      go_wp2_with fail
      go_ret
      exact ⟨by rw [e3]; rfl, hM⟩

theorem MemAt.setX (H : MemAt a (Lab L a kM) gm ws c) (hg : L g = kX) (hk : kX ≠ kM) (j : Nat) (u : Value) : MemAt (a.setCell ⟨g, j, none⟩ u) (Lab L (a.setCell ⟨g, j, none⟩ u) kM) gm ws c :=
  H.lab (S := fun k => k = kX) (Fr.setCell (Fr.refl _ _) (.inr hg) u) (Ext.refl _ _) (Ne.symm hk)

/-- A machine whose step has been done, ahead of its status's store. -/
def MidAt (w : World) (S : Nat → Prop) (g : Nat) (n s h t : Int) (m : Mch) : Prop :=
  S g ∧ m.ok ∧ ∃ f, Blk w g #[.int .i64 n, .int .i64 s, .int .i64 h, .int .u32 t, .int .i64 m.place, .int .u32 m.i, .int .u64 m.w, f, .int .i64 0] (mty m) ∧ (m.st = 0 → NextFn w S g m f)

/-- What one of the functions that 'next' holds does. -/
def StepPost (L : Nat → Nat) (w : World) (kM kX g gm : Nat) (n s h t : Int) (r : Mch × List Int × Nat) (e : Ending) (w' : World) : Prop :=
  e = .returned (.int .i64 r.1.st) ∧ ∃ L', Ext L L' w ∧ MidAt w' (Lab L' w' kX) g n s h t r.1 ∧ MemAt w' (Lab L' w' kM) gm r.2.1 r.2.2 ∧ FrL L (fun k => k = kM ∨ k = kX) w w'

theorem ldV_in {ws : List Int} (hw : Words ws) (i : Int) : 0 ≤ ldV ws i ∧ ldV ws i < 18446744073709551616 := by
  unfold ldV
  split
  · exact hw _
  · omega

set_option maxHeartbeats 4000000 in
theorem takeHead_ (w : World) (place i wv nn : Int) (f : Value) (hB : Blk w g #[.int .i64 n, .int .i64 s, .int .i64 h, .int .u32 t, .int .i64 place, .int .u32 i, .int .u64 wv, f, .int .i64 0] 131) (hgL : L g = kX) (hk : kX ≠ kM)
    (hM : MemAt w (Lab L w kM) gm ws c) (hn : c ≤ 1000000) (hw : Words ws) (hok : Mch.ok ⟨false, place, i, wv, 0, nn, 0⟩) :
    Calls Try.prog 78 #[.pointer (some ⟨g, 0, none⟩), .pointer (some ⟨gm, 0, none⟩)] w (StepPost L w kM kX g gm n s h t (mstep n s h ⟨false, place, i, wv, 0, nn, 0⟩ ws c)) := by
  have hgM : ¬ L g = kM := by rw [hgL]; exact hk
  obtain ⟨x, hx⟩ : ∃ x, x = ldV ws place := ⟨_, rfl⟩
  have hxi := ldV_in hw place
  rw [← hx] at hxi
  obtain ⟨x0, x1⟩ := hxi
  have HX := Lib.hid hx
  have HM := Lib.hid hM
  have C := hB.cells
  have hBl := hB.lt
  have hend : ∀ (m' : Mch) (w2 : World) (f' : Value), m'.ok → m'.give = false → Blk w2 g #[.int .i64 n, .int .i64 s, .int .i64 h, .int .u32 t, .int .i64 m'.place, .int .u32 m'.i, .int .u64 m'.w, f', .int .i64 0] 131 → (m'.st = 0 → m'.pc = 1 ∧ f' = .func (.func 96) #[.pointer (some ⟨g, 0, none⟩)] #[]) →
      MemAt w2 (Lab (re L w kM) w2 kM) gm ws (ldN c ws place) → FrL L (fun k => k = kM ∨ k = kX) w w2 → StepPost L w kM kX g gm n s h t (m', ws, ldN c ws place) (.returned (.int .i64 m'.st)) w2 := fun m' w2 f' h1 h2 h3 h4 h5 h6 =>
    ⟨rfl, _, ext_re L w kM, ⟨⟨by rw [re, if_pos hBl]; exact hgL, h3.lt⟩, h1, f', by unfold mty; rw [h2]; exact h3, fun e => .inr (.inr (.inr (.inr (.inl ⟨h2, (h4 e).1, (h4 e).2⟩))))⟩, h5, h6⟩
  have HEND := Lib.hid hend
  clear hx hM hend
  obtain ⟨r, hr⟩ : ∃ r, r = mstep n s h ⟨false, place, i, wv, 0, nn, 0⟩ ws c := ⟨_, rfl⟩
  rw [← hr]
  have HR := Lib.hid hr
  clear hr
  by_cases hi : inR ws place
  · have e1 : ldE ws place = 0 := by rw [ldE, if_pos hi]
    go_enter Try.func78, Try.ntmps78
    go_wp2_with fail
    refine (LoadL _ HM.out _ hn).mono ?_
    rintro e w1 ⟨rfl, hM1, hf1⟩
    rw [e1, ← HX.out]
    have hB1 := Fr.keep hf1 hB hgM
    clear e1 C
    go_wp2_with fail
    refine (Index_ _ _ x0 x1).mono ?_
    rintro e w2 ⟨rfl, hf2⟩
    have hB2 := hf2.keepNo hB1
    have C2 := hB2.cells
    have F2 := hB2.free
    have hBl2 := hB2.lt
    have hM2 := hM1.no hf2
    have hre : re L w kM g = kX := by rw [re, if_pos hBl]; exact hgL
    have hf12 : FrL L (fun k => k = kM ∨ k = kX) w w2 := (hf1.mono (fun i hi => .inl hi)).then (FrL.ofNo hf2) (Ext.refl _ _)
    have hM3 := fun u => (hM2.setX hre hk 6 (.int .u64 x)).setX hre hk 5 (.int .u32 u)
    have hf3 : ∀ u, FrL L (fun k => k = kM ∨ k = kX) w ((w2.setCell ⟨g, 6, none⟩ (.int .u64 x)).setCell ⟨g, 5, none⟩ (.int .u32 u)) := fun u => Fr.setCell (Fr.setCell hf12 (.inr (.inr hgL)) _) (.inr (.inr hgL)) _
    have hB3 := fun u => (hB2.set 6 (.int .u64 x)).set 5 (.int .u32 u)
    have HM3 := Lib.hid hM3
    have HF3 := Lib.hid hf3
    have HB3 := Lib.hid hB3
    clear hM3 hf3 hB3 hf12 hM2 hM1 hB1
    obtain ⟨k0, k1, k2, k3, k4, k5⟩ := hok
    simp only at k0 k1 k2 k3 k4 k5
    by_cases hz : x % 4294967296 = 0
    · rw [hz]
      go_wp2_with fail
      go_ret
      rw [show r = (⟨false, place, 0, x, 0, nn, 2⟩, ws, ldN c ws place) from HR.out.trans (by simp only [mstep, if_pos hi, ← HX.out, hz]; rfl)]
      exact HEND.out ⟨false, place, 0, x, 0, nn, 2⟩ _ f ⟨by simp, by simp, x0, x1, k4, k5⟩ rfl (HB3.out 0) (fun e => by cases e) (HM3.out 0) (HF3.out 0)
    · have hz' : (x % 4294967296 == 0) = false := by simpa using hz
      go_wp2_with fail
      obtain ⟨y, hy⟩ : ∃ y, y = x % 4294967296 := ⟨_, rfl⟩
      rw [← hy]
      have y0 : 0 ≤ y := by omega
      have y1 : y < 4294967296 := by omega
      have hBy := HB3.out y
      have hMy := HM3.out y
      have hFy := HF3.out y
      obtain ⟨w3, hw3⟩ : ∃ w3, w3 = (w2.setCell ⟨g, 6, none⟩ (.int .u64 x)).setCell ⟨g, 5, none⟩ (.int .u32 y) := ⟨_, rfl⟩
      rw [← hw3] at hBy hMy hFy ⊢
      have hB4 : Blk w3 g #[.int .i64 n, .int .i64 s, .int .i64 h, .int .u32 t, .int .i64 place, .int .u32 y, .int .u64 x, f, .int .i64 0] 131 := hBy
      have HY := Lib.hid hy
      have C3 := hB4.cells
      have q0 := C3 0
      have q1 := C3 1
      have q2 := C3 2
      have q3 := C3 3
      have q5 := C3 5
      simp at q0 q1 q2 q3 q5
      have hBl3 := hB4.lt
      have hz0 := Lib.hid hz
      clear hy hw3 hz hz' C2 F2 C3 hBy hBl2
      have hz3 : ¬ y = 0 := by rw [HY.out]; exact fun e => hz0.out e
      by_cases hneg : nextAt n s h y < 0
      · go_region_held3 (fun w' => w'.cell? ⟨g, 0, none⟩ = some (.int .i64 n) ∧ w'.cell? ⟨g, 1, none⟩ = some (.int .i64 s) ∧ w'.cell? ⟨g, 2, none⟩ = some (.int .i64 h) ∧ w'.cell? ⟨g, 3, none⟩ = some (.int .u32 t) ∧ w'.cell? ⟨g, 5, none⟩ = some (.int .u32 y)) (first | (go_keep; done) | (go_split_ands; (repeat' apply And.intro) <;> first | assumption | (refine (Fr.cell (S := No) (by assumption) (by first | (simp; done) | (simp; omega) | omega) id).trans ?_; first | assumption | (simp; done) | (simp; assumption)) | (refine (Fr.frozen (S := No) (by assumption) (by first | (simp; done) | (simp; omega) | omega) id).trans ?_; first | assumption | (simp; done) | (simp; assumption))))
          ((go_at_call 29; refine (Next_any _ _ _ _ _ _ y0 y1).mono ?_; rintro e w5 ⟨rfl, hf5⟩; have hB5 := hf5.keepNo hB4.drew; have C5 := hB5.cells; have F5 := hB5.free; have hM5 := hMy.no (((Fr.refl No w3).drew).then hf5); have hF5 := hFy.then (FrL.ofNo (S := fun k => k = kM ∨ k = kX) (((Fr.refl No w3).drew).then hf5)) (Ext.refl _ _)))
        all_goals
          go_wp2_with fail
          go_ret
          rw [show r = (⟨false, place, y, x, 0, nn, 5⟩, ws, ldN c ws place) from HR.out.trans (by simp only [mstep, if_pos hi, ← HX.out, ← HY.out, if_neg hz3, if_pos hneg]; rfl)]
          exact HEND.out ⟨false, place, y, x, 0, nn, 5⟩ _ f ⟨y0, y1, x0, x1, k4, k5⟩ rfl hB5 (fun e => by cases e) hM5 hF5
      · go_region_held3 (fun w' => w'.cell? ⟨g, 0, none⟩ = some (.int .i64 n) ∧ w'.cell? ⟨g, 1, none⟩ = some (.int .i64 s) ∧ w'.cell? ⟨g, 2, none⟩ = some (.int .i64 h) ∧ w'.cell? ⟨g, 3, none⟩ = some (.int .u32 t) ∧ w'.cell? ⟨g, 5, none⟩ = some (.int .u32 y)) (first | (go_keep; done) | (go_split_ands; (repeat' apply And.intro) <;> first | assumption | (refine (Fr.cell (S := No) (by assumption) (by first | (simp; done) | (simp; omega) | omega) id).trans ?_; first | assumption | (simp; done) | (simp; assumption)) | (refine (Fr.frozen (S := No) (by assumption) (by first | (simp; done) | (simp; omega) | omega) id).trans ?_; first | assumption | (simp; done) | (simp; assumption))))
          ((go_at_call 29; refine (Next_any _ _ _ _ _ _ y0 y1).mono ?_; rintro e w5 ⟨rfl, hf5⟩; have hB5 := hf5.keepNo hB4.drew; have C5 := hB5.cells; have F5 := hB5.free; have hM5 := hMy.no (((Fr.refl No w3).drew).then hf5); have hF5 := hFy.then (FrL.ofNo (S := fun k => k = kM ∨ k = kX) (((Fr.refl No w3).drew).then hf5)) (Ext.refl _ _)))
        all_goals
          go_wp2_with fail
          go_ret
          rw [show r = (⟨false, place, y, x, 1, nn, 0⟩, ws, ldN c ws place) from HR.out.trans (by simp only [mstep, if_pos hi, ← HX.out, ← HY.out, if_neg hz3, if_neg (show ¬ nextAt n s h y < 0 by omega)]; rfl)]
          exact HEND.out ⟨false, place, y, x, 1, nn, 0⟩ _ _ ⟨y0, y1, x0, x1, k4, k5⟩ rfl (hB5.set 7 _) (fun e => ⟨rfl, rfl⟩) (hM5.setX hre hk 7 _) (Fr.setCell hF5 (.inr (.inr hgL)) _)
  · have e1 : ldE ws place = 2 := by rw [ldE, if_neg hi]
    have e2 : x = 0 := by rw [HX.out, ldV, if_neg hi]
    subst e2
    go_enter Try.func78, Try.ntmps78
    go_wp2_with fail
    refine (LoadL _ HM.out _ hn).mono ?_
    rintro e w1 ⟨rfl, hM1, hf1⟩
    rw [e1, ← HX.out]
    have hB1 := Fr.keep hf1 hB hgM
    clear e1 C
    go_wp2_with fail
    refine (Index_ _ _ x0 x1).mono ?_
    rintro e w2 ⟨rfl, hf2⟩
    have hB2 := hf2.keepNo hB1
    have C2 := hB2.cells
    have F2 := hB2.free
    have hBl2 := hB2.lt
    have hM2 := hM1.no hf2
    have hre : re L w kM g = kX := by rw [re, if_pos hBl]; exact hgL
    have hf12 : FrL L (fun k => k = kM ∨ k = kX) w w2 := (hf1.mono (fun i hi => .inl hi)).then (FrL.ofNo hf2) (Ext.refl _ _)
    have HM3 := Lib.hid ((hM2.setX hre hk 6 (.int .u64 0)).setX hre hk 5 (.int .u32 0))
    have HF3 := Lib.hid (Fr.setCell (Fr.setCell hf12 (p := ⟨g, 6, none⟩) (.inr (.inr hgL)) (.int .u64 0)) (p := ⟨g, 5, none⟩) (.inr (.inr hgL)) (.int .u32 0))
    have HB3 := Lib.hid ((hB2.set 6 (.int .u64 0)).set 5 (.int .u32 0))
    clear hf12 hM2 hM1 hB1
    obtain ⟨k0, k1, k2, k3, k4, k5⟩ := hok
    simp only at k0 k1 k2 k3 k4 k5
    go_wp2_with fail
    go_ret
    rw [show r = (⟨false, place, 0, 0, 0, nn, 5⟩, ws, ldN c ws place) from HR.out.trans (by simp only [mstep, if_neg hi, ← HX.out]; rfl)]
    exact HEND.out ⟨false, place, 0, 0, 0, nn, 5⟩ _ f ⟨by simp, by simp, x0, x1, k4, k5⟩ rfl HB3.out (fun e => by cases e) HM3.out HF3.out
end Go.Proofs.Ytfglpigoljclbaa.H
