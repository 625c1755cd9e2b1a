/- taglist: the second step of a Give. -/
import Derived.Test.YtfglpigoljclbaaHStepT
set_option linter.unusedVariables false
set_option linter.unusedSimpArgs false
namespace Go.Proofs.Ytfglpigoljclbaa.H
open Go.RowKit
attribute [local go_sem ↓] Go.wp_at_zero Go.wp_at_succ
variable {w w' a b : World} {S T : Nat → Prop} {g gm k c kM kX : Nat} {ws : List Int} {m : Mch} {n s h t : Int} {L L' : Nat → Nat}

set_option maxHeartbeats 4000000 in
theorem giveSecond_ (w : World) (place i wv nn : Int) (f : Value) (hB : Blk w g #[.int .i64 n, .int .i64 s, .int .i64 h, .int .u32 t, .int .i64 place, .int .u32 i, .int .u64 wv, f, .int .i64 0] 132) (hgL : L g = kX) (hk : kX ≠ kM)
    (hM : MemAt w (Lab L w kM) gm ws c) (hn : c ≤ 1000000) (hw : Words ws) (hok : Mch.ok ⟨true, place, i, wv, 1, nn, 0⟩) :
    Calls Try.prog 97 #[.pointer (some ⟨g, 0, none⟩), .pointer (some ⟨gm, 0, none⟩)] w (StepPost L w kM kX g gm n s h t (mstep n s h ⟨true, place, i, wv, 1, nn, 0⟩ ws c)) := by
  obtain ⟨y, hy⟩ : ∃ y, y = nextAt n s h i := ⟨_, rfl⟩
  obtain ⟨k0, k1, k2, k3, k4, k5⟩ := hok
  simp only at k0 k1 k2 k3 k4 k5
  have hBl := hB.lt
  obtain ⟨r, hr⟩ : ∃ r, r = mstep n s h ⟨true, place, i, wv, 1, nn, 0⟩ ws c := ⟨_, rfl⟩
  rw [← hr]
  have HR := Lib.hid hr
  have HY := Lib.hid hy
  clear hr hy
  obtain ⟨L1, hL1⟩ : ∃ L1, L1 = re L w kX := ⟨_, rfl⟩
  have hE1 : Ext L L1 w := by rw [hL1]; exact ext_re _ _ _
  obtain ⟨bx, hbx⟩ : ∃ bx, bx = w.heap.size := ⟨_, rfl⟩
  have hbL : L1 bx = kX := by rw [hL1, hbx, re, if_neg (by omega)]
  have hcA : ∀ z, w.heap.size + 1 ≤ z → ¬ L1 z = kM := fun z hz => by rw [hL1, re, if_neg (by omega)]; exact hk
  have hcX0 : ∀ z, w.heap.size + 1 ≤ z → L1 z = kX := fun z hz => by rw [hL1, re, if_neg (by omega)]
  have hgL1 : L1 g = kX := (hE1 g hBl).trans hgL
  have hgM : ¬ L1 g = kM := by rw [hgL1]; exact hk
  have hbM : ¬ L1 bx = kM := by rw [hbL]; exact hk
  obtain ⟨wA, hwA⟩ : ∃ wA, wA = w.alloc (.cells #[.pointer (some ⟨g, 0, none⟩)] 59) := ⟨_, rfl⟩
  have hfA : Fr No w wA := by rw [hwA]; exact (Fr.refl No w).alloc _
  have hBA := hfA.keepNo hB
  have hszA : wA.heap.size = w.heap.size + 1 := by rw [hwA]; simp
  have hcM := hcA wA.heap.size (by omega)
  have hcA : ∀ z, wA.heap.size ≤ z → ¬ L1 z = kM := fun z hz => hcA z (by omega)
  have hcX : ∀ z, wA.heap.size ≤ z → L1 z = kX := fun z hz => hcX0 z (by omega)
  clear hszA hcX0
  have hXA : Blk wA bx #[.pointer (some ⟨g, 0, none⟩)] 59 := by rw [hwA]; exact blk_at w hbx
  have HM := Lib.hid (hM.lab (S := fun _ => False) (FrL.ofNo hfA) hE1 id)
  have C := hBA.cells
  have q0 := C 0
  have q1 := C 1
  have q2 := C 2
  have q3 := C 3
  have q5 := C 5
  have q6 := C 6
  have D := hXA.cells
  have d0 := D 0
  simp at q0 q1 q2 q3 q5 q6 d0
  have hlA := hBA.lt
  have hlX := hXA.lt
  have hfA' := Lib.hid hfA
  have HwA := Lib.hid hwA
  have hE1' := Lib.hid hE1
  clear C D hM hL1
  go_enter Try.func97, Try.ntmps97
  go_wp2_with fail
  rw [← hwA, ← hbx]
  clear hwA hfA hE1
  have Hbx := Lib.hid hbx
  clear hbx
  have e7 : IntKind.u64.wrap (wv % 4294967296) = wv % 4294967296 := by simp [IntKind.wrap, IntKind.bits, IntKind.signed]; omega
  have sA0 := hfA'.out.size
  by_cases hi : inR ws y
  · have e1 : ldE ws y = 0 := by rw [ldE, if_pos hi]
    go_region_held3 (fun w' => w'.cell? ⟨bx, 0, none⟩ = some (.pointer (some ⟨g, 0, none⟩)) ∧ w'.cell? ⟨g, 0, none⟩ = some (.int .i64 n) ∧ w'.cell? ⟨g, 1, none⟩ = some (.int .i64 s) ∧ w'.cell? ⟨g, 2, none⟩ = some (.int .i64 h) ∧ w'.cell? ⟨g, 3, none⟩ = some (.int .u32 t) ∧ w'.cell? ⟨g, 5, none⟩ = some (.int .u32 i) ∧ w'.cell? ⟨g, 6, none⟩ = some (.int .u64 wv)) (first | (go_keep; done) | (go_split_ands; (repeat' apply And.intro) <;> first | assumption | (refine (Fr.cell (S := No) (by assumption) (by first | (simp; done) | (simp; omega) | omega) id).trans ?_; first | assumption | (simp; done) | (simp; assumption)) | (refine (Fr.frozen (S := No) (by assumption) (by first | (simp; done) | (simp; omega) | omega) id).trans ?_; first | assumption | (simp; done) | (simp; assumption))))
      (first | ((go_at_call 29; refine (Next_any _ _ _ _ _ _ k0 k1).mono ?_; rintro e w5 ⟨rfl, hf5⟩; have hB5 := hf5.keepNo hBA.drew; have hX5 := hf5.keepNo hXA.drew; have hF5 := ((Fr.refl No wA).drew).then hf5; have hM5 := HM.out.no hF5; have C5 := hB5.cells; have D5 := hX5.cells; rw [← HY.out])) | ((go_at_call 29; refine (Next_any _ _ _ _ _ _ k0 k1).mono ?_; rintro e w6 ⟨rfl, hf6⟩; have hB6 := hf6.keepNo hB5; have hX6 := hf6.keepNo hX5; have hF6 := hF5.then hf6; have hM6 := hM5.no hf6; have C6 := hB6.cells; have D6 := hX6.cells; rw [← HY.out])) | ((go_at_call 67; refine (Index_ _ _ k2 k3).mono ?_; rintro e w5 ⟨rfl, hf5⟩; have hB5 := hf5.keepNo hBA.drew; have hX5 := hf5.keepNo hXA.drew; have hF5 := ((Fr.refl No wA).drew).then hf5; have hM5 := HM.out.no hF5; have C5 := hB5.cells; have D5 := hX5.cells)) | ((go_at_call 67; refine (Index_ _ _ k2 k3).mono ?_; rintro e w6 ⟨rfl, hf6⟩; have hB6 := hf6.keepNo hB5; have hX6 := hf6.keepNo hX5; have hF6 := hF5.then hf6; have hM6 := hM5.no hf6; have C6 := hB6.cells; have D6 := hX6.cells)) | ((go_at_call 57; refine (StoreL _ hM6 _ _ hn).mono ?_; rintro e w7 ⟨rfl, hM7, hf7⟩; have hB7 := Fr.keep hf7 hB6 hgM; have hX7 := Fr.keep hf7 hX6 hbM; have C7 := hB7.cells; have D7 := hX7.cells; have F7 := hB7.free; rw [e1])))
    all_goals
      clear e1
      go_wp2_with fail
      go_ret
      rw [show r = (⟨true, place, i, wv, 2, nn, 0⟩, stW ws y (wv % 4294967296), ldN c ws y) from HR.out.trans (by simp only [mstep, ← HY.out, if_pos hi]; rfl)]
      have s6 := hF6.size
      have hXB : bx ≠ g := blk_ne hX7 hB7 (by decide)
      have hg7 : re L1 w6 kM g = kX := by rw [re, if_pos hB6.lt]; exact hgL1
      have hb7 : re L1 w6 kM bx = kX := by rw [re, if_pos hX6.lt]; exact hbL
      exact ⟨rfl, re L1 w6 kM, hE1'.out.trans (ext_re' (w := w) (by omega)) (Nat.le_refl _), ⟨⟨hg7, by simpa [World.setCell] using hB7.lt⟩, ⟨k0, k1, k2, k3, k4, k5⟩, _, hB7.set 7 _, fun _ => .inr (.inr (.inl ⟨rfl, rfl, bx, rfl, hX7.far (p := ⟨g, 7, none⟩) hXB _, ⟨hb7, by simpa [World.setCell] using hX7.lt⟩⟩))⟩, hM7.setX hg7 hk 7 _,
        Fr.setCell ((FrL.ofNo (S := fun k => k = kM ∨ k = kX) (hfA'.out.then hF6)).then (hf7.mono (fun i hi => .inl hi)) hE1'.out) (.inr (.inr hgL)) _⟩
  · have e1 : ldE ws y = 2 := by rw [ldE, if_neg hi]
    go_region_held3 (fun w' => w'.cell? ⟨bx, 0, none⟩ = some (.pointer (some ⟨g, 0, none⟩)) ∧ w'.cell? ⟨g, 0, none⟩ = some (.int .i64 n) ∧ w'.cell? ⟨g, 1, none⟩ = some (.int .i64 s) ∧ w'.cell? ⟨g, 2, none⟩ = some (.int .i64 h) ∧ w'.cell? ⟨g, 3, none⟩ = some (.int .u32 t) ∧ w'.cell? ⟨g, 5, none⟩ = some (.int .u32 i) ∧ w'.cell? ⟨g, 6, none⟩ = some (.int .u64 wv)) (first | (go_keep; done) | (go_split_ands; (repeat' apply And.intro) <;> first | assumption | (refine (Fr.cell (S := No) (by assumption) (by first | (simp; done) | (simp; omega) | omega) id).trans ?_; first | assumption | (simp; done) | (simp; assumption)) | (refine (Fr.frozen (S := No) (by assumption) (by first | (simp; done) | (simp; omega) | omega) id).trans ?_; first | assumption | (simp; done) | (simp; assumption))))
      (first | ((go_at_call 29; refine (Next_any _ _ _ _ _ _ k0 k1).mono ?_; rintro e w5 ⟨rfl, hf5⟩; have hB5 := hf5.keepNo hBA.drew; have hX5 := hf5.keepNo hXA.drew; have hF5 := ((Fr.refl No wA).drew).then hf5; have hM5 := HM.out.no hF5; have C5 := hB5.cells; have D5 := hX5.cells; rw [← HY.out])) | ((go_at_call 29; refine (Next_any _ _ _ _ _ _ k0 k1).mono ?_; rintro e w6 ⟨rfl, hf6⟩; have hB6 := hf6.keepNo hB5; have hX6 := hf6.keepNo hX5; have hF6 := hF5.then hf6; have hM6 := hM5.no hf6; have C6 := hB6.cells; have D6 := hX6.cells; rw [← HY.out])) | ((go_at_call 67; refine (Index_ _ _ k2 k3).mono ?_; rintro e w5 ⟨rfl, hf5⟩; have hB5 := hf5.keepNo hBA.drew; have hX5 := hf5.keepNo hXA.drew; have hF5 := ((Fr.refl No wA).drew).then hf5; have hM5 := HM.out.no hF5; have C5 := hB5.cells; have D5 := hX5.cells)) | ((go_at_call 67; refine (Index_ _ _ k2 k3).mono ?_; rintro e w6 ⟨rfl, hf6⟩; have hB6 := hf6.keepNo hB5; have hX6 := hf6.keepNo hX5; have hF6 := hF5.then hf6; have hM6 := hM5.no hf6; have C6 := hB6.cells; have D6 := hX6.cells)) | ((go_at_call 57; refine (StoreL _ hM6 _ _ hn).mono ?_; rintro e w7 ⟨rfl, hM7, hf7⟩; have hB7 := Fr.keep hf7 hB6 hgM; have hX7 := Fr.keep hf7 hX6 hbM; have C7 := hB7.cells; have D7 := hX7.cells; have F7 := hB7.free; rw [e1])))
    all_goals
      clear e1
      go_wp2_with fail
      go_ret
      rw [show r = (⟨true, place, i, wv, 1, nn, 5⟩, ws, ldN c ws y) from HR.out.trans (by simp only [mstep, ← HY.out, if_neg hi]; rfl)]
      have s6 := hF6.size
      have hg7 : re L1 w6 kM g = kX := by rw [re, if_pos hB6.lt]; exact hgL1
      rw [stW, if_neg hi] at hM7
      exact ⟨rfl, re L1 w6 kM, hE1'.out.trans (ext_re' (w := w) (by omega)) (Nat.le_refl _), ⟨⟨hg7, hB7.lt⟩, ⟨k0, k1, k2, k3, k4, k5⟩, f, hB7, fun e => by cases e⟩, hM7,
        (FrL.ofNo (S := fun k => k = kM ∨ k = kX) (hfA'.out.then hF6)).then (hf7.mono (fun i hi => .inl hi)) hE1'.out⟩
end Go.Proofs.Ytfglpigoljclbaa.H
