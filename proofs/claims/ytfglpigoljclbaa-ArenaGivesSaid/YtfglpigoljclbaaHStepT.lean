/- taglist: the second step of a Take. -/
import Derived.Test.YtfglpigoljclbaaHStepG
set_option linter.unusedVariables false
set_option linter.unusedSimpArgs false
namespace Go.Proofs.Ytfglpigoljclbaa.H
open Go.RowKit
attribute [local go_sem ↓] Go.wp_at_zero Go.wp_at_succ
variable {w w' a b : World} {S T : Nat → Prop} {g gm k c kM kX : Nat} {ws : List Int} {m : Mch} {n s h t : Int} {L L' : Nat → Nat}

/-- Behind the load, in Take's second step. -/
def SecMid (L : Nat → Nat) (w wx : World) (kM kX g gm bx : Nat) (cs : Array Value) (T P : TypeId) (x : Int) (ws : List Int) (y : Int) (c : Nat) (v5 v6 : Value) : Prop :=
  ∃ L' cb, v5 = .pointer (some ⟨cb, 0, none⟩) ∧ v6 = .int .i64 (ldE ws y) ∧ Ext L L' w ∧ L' g = kX ∧ L' bx = kX ∧ L' cb = kX ∧ Blk wx g cs T ∧ Blk wx bx #[.pointer (some ⟨g, 0, none⟩)] P ∧ Blk wx cb #[.int .u64 x] 26 ∧
    MemAt wx (Lab L' wx kM) gm ws (ldN c ws y) ∧ FrL L (fun k => k = kM ∨ k = kX) w wx

set_option maxHeartbeats 4000000 in
theorem takeSecond_ (w : World) (place i wv nn : Int) (f : Value) (hB : Blk w g #[.int .i64 n, .int .i64 s, .int .i64 h, .int .u32 t, .int .i64 place, .int .u32 i, .int .u64 wv, f, .int .i64 0] 131) (hgL : L g = kX) (hk : kX ≠ kM)
    (hM : MemAt w (Lab L w kM) gm ws c) (hn : c ≤ 1000000) (hw : Words ws) (hok : Mch.ok ⟨false, place, i, wv, 1, nn, 0⟩) :
    Calls Try.prog 96 #[.pointer (some ⟨g, 0, none⟩), .pointer (some ⟨gm, 0, none⟩)] w (StepPost L w kM kX g gm n s h t (mstep n s h ⟨false, place, i, wv, 1, nn, 0⟩ ws c)) := by
  obtain ⟨y, hy⟩ : ∃ y, y = nextAt n s h i := ⟨_, rfl⟩
  obtain ⟨x, hx⟩ : ∃ x, x = ldV ws y := ⟨_, rfl⟩
  have hxi := ldV_in hw y
  rw [← hx] at hxi
  obtain ⟨x0, x1⟩ := hxi
  obtain ⟨k0, k1, k2, k3, k4, k5⟩ := hok
  simp only at k0 k1 k2 k3 k4 k5
  have hBl := hB.lt
  obtain ⟨r, hr⟩ : ∃ r, r = mstep n s h ⟨false, place, i, wv, 1, nn, 0⟩ ws c := ⟨_, rfl⟩
  rw [← hr]
  have HR := Lib.hid hr
  have HX := Lib.hid hx
  have HY := Lib.hid hy
  clear hr hx hy
  obtain ⟨L1, hL1⟩ : ∃ L1, L1 = re L w kX := ⟨_, rfl⟩
  have hE1 : Ext L L1 w := by rw [hL1]; exact ext_re _ _ _
  obtain ⟨bx, hbx⟩ : ∃ bx, bx = w.heap.size := ⟨_, rfl⟩
  have hbL : L1 bx = kX := by rw [hL1, hbx, re, if_neg (by omega)]
  have hcA : ∀ z, w.heap.size + 1 ≤ z → ¬ L1 z = kM := fun z hz => by rw [hL1, re, if_neg (by omega)]; exact hk
  have hcX0 : ∀ z, w.heap.size + 1 ≤ z → L1 z = kX := fun z hz => by rw [hL1, re, if_neg (by omega)]
  have hgL1 : L1 g = kX := (hE1 g hBl).trans hgL
  have hgM : ¬ L1 g = kM := by rw [hgL1]; exact hk
  have hbM : ¬ L1 bx = kM := by rw [hbL]; exact hk
  obtain ⟨wA, hwA⟩ : ∃ wA, wA = w.alloc (.cells #[.pointer (some ⟨g, 0, none⟩)] 58) := ⟨_, rfl⟩
  have hfA : Fr No w wA := by rw [hwA]; exact (Fr.refl No w).alloc _
  have hBA := hfA.keepNo hB
  have hszA : wA.heap.size = w.heap.size + 1 := by rw [hwA]; simp
  have hcM := hcA wA.heap.size (by omega)
  have hcA : ∀ z, wA.heap.size ≤ z → ¬ L1 z = kM := fun z hz => hcA z (by omega)
  have hcX : ∀ z, wA.heap.size ≤ z → L1 z = kX := fun z hz => hcX0 z (by omega)
  clear hszA hcX0
  have hXA : Blk wA bx #[.pointer (some ⟨g, 0, none⟩)] 58 := by rw [hwA]; exact blk_at w hbx
  have HM := Lib.hid (hM.lab (S := fun _ => False) (FrL.ofNo hfA) hE1 id)
  have C := hBA.cells
  have q0 := C 0
  have q1 := C 1
  have q2 := C 2
  have q3 := C 3
  have q5 := C 5
  have D := hXA.cells
  have d0 := D 0
  simp at q0 q1 q2 q3 q5 d0
  have hlA := hBA.lt
  have hlX := hXA.lt
  have hfA' := Lib.hid hfA
  have HwA := Lib.hid hwA
  have hE1' := Lib.hid hE1
  clear C D hM hL1
  go_enter Try.func96, Try.ntmps96
  go_wp2_with fail
  rw [← hwA, ← hbx]
  clear hwA hfA hE1
  have Hbx := Lib.hid hbx
  clear hbx
  go_cut [5, 6] (fun v5 v6 wx => SecMid L w wx kM kX g gm bx #[.int .i64 n, .int .i64 s, .int .i64 h, .int .u32 t, .int .i64 place, .int .u32 i, .int .u64 wv, f, .int .i64 0] 131 58 x ws y c v5 v6)
  case first =>
    go_region_held3 (fun w' => w'.cell? ⟨bx, 0, none⟩ = some (.pointer (some ⟨g, 0, none⟩)) ∧ w'.cell? ⟨g, 0, none⟩ = some (.int .i64 n) ∧ w'.cell? ⟨g, 1, none⟩ = some (.int .i64 s) ∧ w'.cell? ⟨g, 2, none⟩ = some (.int .i64 h) ∧ w'.cell? ⟨g, 3, none⟩ = some (.int .u32 t) ∧ w'.cell? ⟨g, 5, none⟩ = some (.int .u32 i)) (first | (go_keep; done) | (go_split_ands; (repeat' apply And.intro) <;> first | assumption | (refine (Fr.cell (S := No) (by assumption) (by first | (simp; done) | (simp; omega) | omega) id).trans ?_; first | assumption | (simp; done) | (simp; assumption)) | (refine (Fr.frozen (S := No) (by assumption) (by first | (simp; done) | (simp; omega) | omega) id).trans ?_; first | assumption | (simp; done) | (simp; assumption))))
      (first | ((go_at_call 29; refine (Next_any _ _ _ _ _ _ k0 k1).mono ?_; rintro e w5 ⟨rfl, hf5⟩; have hC5 := hf5.keepNo (blk_at wA.drew (cs := #[.int .u64 0]) (t := 26) (k := wA.heap.size) rfl); have hB5 := hf5.keepNo (hBA.drew.alloc _); have hX5 := hf5.keepNo (hXA.drew.alloc _); have hF5 := (((Fr.refl No wA).drew).alloc _).then hf5; have n1 := Nat.ne_of_lt hBA.lt; have n2 := Nat.ne_of_lt hXA.lt; have n3 := Ne.symm n1; have n4 := Ne.symm n2; rw [← HY.out]; have hM5 := HM.out.no hF5; have C5 := hB5.cells; have D5 := hX5.cells)) | ((go_at_call 29; refine (Next_any _ _ _ _ _ _ k0 k1).mono ?_; rintro e w5 ⟨rfl, hf5⟩; have hB5 := hf5.keepNo hBA.drew; have hX5 := hf5.keepNo hXA.drew; have hF5 := ((Fr.refl No wA).drew).then hf5; rw [← HY.out]; have hM5 := HM.out.no hF5; have C5 := hB5.cells; have D5 := hX5.cells)) | ((go_at_call 95; refine (LoadL _ hM5 _ hn).mono ?_; rintro e w6 ⟨rfl, hM6, hf6⟩; have hC6 := Fr.keep hf6 hC5 hcM; have hB6 := Fr.keep hf6 hB5 hgM; have hX6 := Fr.keep hf6 hX5 hbM; have E6 := hC6.cells; have G6 := hC6.free; have lc5 := hC6.lt; have C6 := hB6.cells; have D6 := hX6.cells; have F6 := hB6.free; have l6 := hB6.lt; have lx6 := hX6.lt; rw [← HX.out])) | ((go_at_call 95; refine (LoadL _ hM5 _ hn).mono ?_; rintro e w6 ⟨rfl, hM6, hf6⟩; have hB6 := Fr.keep hf6 hB5 hgM; have hX6 := Fr.keep hf6 hX5 hbM; have C6 := hB6.cells; have D6 := hX6.cells; have F6 := hB6.free; have l6 := hB6.lt; have lx6 := hX6.lt; rw [← HX.out])) | ((go_at_call 95; refine (LoadL _ (hM5.no ((Fr.refl No w5).alloc _)) _ hn).mono ?_; rintro e w6 ⟨rfl, hM6, hf6⟩; have hB6 := Fr.keep hf6 (hB5.alloc _) hgM; have hX6 := Fr.keep hf6 (hX5.alloc _) hbM; have hC6 := Fr.keep hf6 (blk_new w5 #[.int .u64 0] 26) (hcA w5.heap.size hF5.size); have n1 := Nat.ne_of_lt hB5.lt; have n2 := Nat.ne_of_lt hX5.lt; have n3 := Ne.symm n1; have n4 := Ne.symm n2; have E6 := hC6.cells; have G6 := hC6.free; have lc5 := hC6.lt; have C6 := hB6.cells; have D6 := hX6.cells; have F6 := hB6.free; have l6 := hB6.lt; have lx6 := hX6.lt; rw [← HX.out])))
    · go_wp2_with fail
      go_meet
      have s5 := hF5.size
      have s6 := hf6.size
      have sA := hfA'.out.size
      exact ⟨re (re L1 w5 kM) w6 kX, w6.heap.size, rfl, rfl, (hE1'.out.trans (ext_re' (w := w) (w' := w5) (by omega)) (Nat.le_refl _)).trans (ext_re' (w := w) (w' := w6) (by omega)) (Nat.le_refl _), by rw [ext_re _ w6 kX g l6, ext_re _ w5 kM g hB5.lt]; exact hgL1,
        by rw [ext_re _ w6 kX bx lx6, ext_re _ w5 kM bx hX5.lt]; exact hbL, by rw [re, if_neg (by omega)], hB6.alloc _, hX6.alloc _, blk_new _ _ _, hM6.lab (S := fun _ => False) (FrL.ofNo ((Fr.refl No w6).alloc _)) (ext_re _ _ _) id,
        Fr.alloc (((FrL.ofNo (S := fun k => k = kM ∨ k = kX) (hfA'.out.then hF5)).then (hf6.mono (fun i hi => .inl hi)) hE1'.out)) _⟩
    · go_wp2_with fail
      go_meet
      have s5 := hF5.size
      have s6 := hf6.size
      have sA := hfA'.out.size
      have hcb : L1 w5.heap.size = kX := hcX _ s5
      have hcb2 : re L1 (w5.alloc (.cells #[.int .u64 0] 26)) kM w5.heap.size = kX := by rw [re, if_pos (by simp)]; exact hcb
      exact ⟨_, w5.heap.size, rfl, rfl, hE1'.out.trans (ext_re' (w := w) (by simp only [World.size_alloc]; omega)) (Nat.le_refl _), by rw [re, if_pos (by have := hB5.lt; simp only [World.size_alloc]; omega)]; exact hgL1,
        by rw [re, if_pos (by have := hX5.lt; simp only [World.size_alloc]; omega)]; exact hbL, hcb2, hB6.far (p := ⟨w5.heap.size, 0, none⟩) n1 _, hX6.far (p := ⟨w5.heap.size, 0, none⟩) n2 _, hC6.set 0 _, hM6.setX hcb2 hk 0 _,
        Fr.setCell (((FrL.ofNo (S := fun k => k = kM ∨ k = kX) (((hfA'.out.then hF5)).alloc _)).then (hf6.mono (fun i hi => .inl hi)) hE1'.out)) (.inl (by show w.heap.size ≤ w5.heap.size; omega)) _⟩
    · go_wp2_with fail
      go_meet
      have s5 := hF5.size
      have s6 := hf6.size
      have sA := hfA'.out.size
      have hcb : L1 wA.heap.size = kX := hcX _ (Nat.le_refl _)
      have lC := hC5.lt
      have hcb2 : re L1 w5 kM wA.heap.size = kX := by rw [re, if_pos lC]; exact hcb
      exact ⟨_, wA.heap.size, rfl, rfl, hE1'.out.trans (ext_re' (w := w) (by omega)) (Nat.le_refl _), by rw [re, if_pos hB5.lt]; exact hgL1,
        by rw [re, if_pos hX5.lt]; exact hbL, hcb2, hB6.far (p := ⟨wA.heap.size, 0, none⟩) n1 _, hX6.far (p := ⟨wA.heap.size, 0, none⟩) n2 _, hC6.set 0 _, hM6.setX hcb2 hk 0 _,
        Fr.setCell (((FrL.ofNo (S := fun k => k = kM ∨ k = kX) (hfA'.out.then hF5)).then (hf6.mono (fun i hi => .inl hi)) hE1'.out)) (.inl (by show w.heap.size ≤ wA.heap.size; omega)) _⟩
  case rest =>
    obtain ⟨L', cb, rfl, rfl, hE, hgL', hbL', hcL', hBw, hXw, hCw, hMw, hFw⟩ := hcut
    have C6 := hBw.cells
    have F6 := hBw.free
    have D6 := hXw.cells
    clear q0 q1 q2 q3 q5 d0
    by_cases hi : inR ws y
    · have e1 : ldE ws y = 0 := by rw [ldE, if_pos hi]
      rw [e1]
      clear e1
      go_wp2_with fail
      go_ret
      rw [show r = (⟨false, place, i, wv, 2, x, 0⟩, ws, ldN c ws y) from HR.out.trans (by simp only [mstep, ← HY.out, if_pos hi, ← HX.out]; rfl)]
      have hXB : bx ≠ g := blk_ne hXw hBw (by decide)
      have hCB : cb ≠ g := blk_ne hCw hBw (by decide)
      exact ⟨rfl, L', hE, ⟨⟨hgL', by simpa [World.setCell] using hBw.lt⟩, ⟨k0, k1, k2, k3, x0, x1⟩, _, hBw.set 7 _, fun _ => .inr (.inr (.inr (.inr (.inr ⟨rfl, rfl, bx, cb, rfl, hXw.far (p := ⟨g, 7, none⟩) hXB _, ⟨hbL', by simpa [World.setCell] using hXw.lt⟩, hCw.far (p := ⟨g, 7, none⟩) hCB _, ⟨hcL', by simpa [World.setCell] using hCw.lt⟩⟩))))⟩, hMw.setX hgL' hk 7 _, Fr.setCell hFw (.inr (.inr hgL)) _⟩
    · have e1 : ldE ws y = 2 := by rw [ldE, if_neg hi]
      rw [e1]
      clear e1
      go_wp2_with fail
      go_ret
      rw [show r = (⟨false, place, i, wv, 1, nn, 5⟩, ws, ldN c ws y) from HR.out.trans (by simp only [mstep, ← HY.out, if_neg hi]; rfl)]
      exact ⟨rfl, L', hE, ⟨⟨hgL', hBw.lt⟩, ⟨k0, k1, k2, k3, k4, k5⟩, f, hBw, fun e => by cases e⟩, hMw, hFw⟩
end Go.Proofs.Ytfglpigoljclbaa.H
