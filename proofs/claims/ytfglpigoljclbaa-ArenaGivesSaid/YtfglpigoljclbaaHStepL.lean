/- taglist: the last step of a Take and of a Give. -/
import Derived.Test.YtfglpigoljclbaaHStepU
set_option linter.unusedVariables false
set_option linter.unusedSimpArgs false
namespace Go.Proofs.Ytfglpigoljclbaa.H
open Go.RowKit
attribute [local go_sem ↓] Go.wp_at_zero Go.wp_at_succ
variable {w w' a b : World} {S T : Nat → Prop} {g gm k c kM kX : Nat} {ws : List Int} {m : Mch} {n s h t : Int} {L L' : Nat → Nat}

theorem swSt_ne (ws : List Int) (i o : Int) : ¬ swSt ws i o = 0 := by unfold swSt; split <;> (try split) <;> decide

theorem mstep_two (n s h : Int) (gv : Bool) (place i wv nn : Int) (ws : List Int) (c : Nat) :
    mstep n s h ⟨gv, place, i, wv, 2, nn, 0⟩ ws c = (⟨gv, place, i, wv, 2, nn, swSt ws place wv⟩, swW ws place wv (nextWord wv (Mch.first ⟨gv, place, i, wv, 2, nn, 0⟩)), ldN c ws place) := by
  simp only [mstep]
  by_cases hi : inR ws place
  · by_cases hb : swB ws place wv = true
    · rw [if_pos hi, if_pos hb, swSt, if_pos hi, if_pos hb]
    · rw [if_pos hi, if_neg hb, swSt, if_pos hi, if_neg hb, swW, if_neg hb]
  · have hb : ¬ swB ws place wv = true := by simp [swB, hi]
    rw [if_neg hi, swSt, if_neg hi, swW, if_neg hb]

theorem last_end (w w6 : World) {gv : Bool} (place i wv nn : Int) (f : Value) (hB : Blk w g #[.int .i64 n, .int .i64 s, .int .i64 h, .int .u32 t, .int .i64 place, .int .u32 i, .int .u64 wv, f, .int .i64 0] (mty ⟨gv, place, i, wv, 2, nn, 0⟩)) (hgL : L g = kX) (hgM : ¬ L g = kM) (hok : Mch.ok ⟨gv, place, i, wv, 2, nn, 0⟩)
    (hE : Ext L L' w) (hM : MemAt w6 (Lab L' w6 kM) gm (swW ws place wv (nextWord wv (Mch.first ⟨gv, place, i, wv, 2, nn, 0⟩))) (ldN c ws place)) (hf : FrL L (· = kM) w w6) :
    StepPost L w kM kX g gm n s h t (mstep n s h ⟨gv, place, i, wv, 2, nn, 0⟩ ws c) (.returned (.int .i64 (swSt ws place wv))) w6 := by
  rw [mstep_two]
  have hB6 := Fr.keep hf hB hgM
  exact ⟨rfl, L', hE, ⟨⟨(hE g hB.lt).trans hgL, hB6.lt⟩, hok, f, hB6, fun e => absurd e (swSt_ne _ _ _)⟩, hM, hf.mono (fun i hi => .inl hi)⟩

theorem takeLast_ (w : World) (place i wv nn : Int) (f : Value) (hB : Blk w g #[.int .i64 n, .int .i64 s, .int .i64 h, .int .u32 t, .int .i64 place, .int .u32 i, .int .u64 wv, f, .int .i64 0] 131) (hgL : L g = kX) (hk : kX ≠ kM)
    (hM : MemAt w (Lab L w kM) gm ws c) (hn : c ≤ 1000000) (hok : Mch.ok ⟨false, place, i, wv, 2, nn, 0⟩) {bx cb : Nat} (hX : Blk w bx #[.pointer (some ⟨g, 0, none⟩)] 58) (hC : Blk w cb #[.int .u64 nn] 26) (hbL : L bx = kX) (hcL : L cb = kX) :
    Calls Try.prog 104 #[.pointer (some ⟨gm, 0, none⟩), .pointer (some ⟨bx, 0, none⟩), .pointer (some ⟨cb, 0, none⟩)] w (StepPost L w kM kX g gm n s h t (mstep n s h ⟨false, place, i, wv, 2, nn, 0⟩ ws c)) := by
  have hgM : ¬ L g = kM := by rw [hgL]; exact hk
  have hbM : ¬ L bx = kM := by rw [hbL]; exact hk
  have hcM : ¬ L cb = kM := by rw [hcL]; exact hk
  obtain ⟨r, hr⟩ : ∃ r, r = StepPost L w kM kX g gm n s h t (mstep n s h ⟨false, place, i, wv, 2, nn, 0⟩ ws c) := ⟨_, rfl⟩
  have HE := Lib.hid (fun w6 L' => last_end (L := L) (L' := L') (kM := kM) (kX := kX) (gm := gm) (ws := ws) (c := c) w w6 (gv := false) place i wv nn f hB hgL hgM hok)
  rw [← hr] at HE ⊢
  clear hr
  obtain ⟨k0, k1, k2, k3, k4, k5⟩ := hok
  simp only at k0 k1 k2 k3 k4 k5
  have d0 := hX.cells 0
  have c0 := hC.cells 0
  simp at d0 c0
  have HM := Lib.hid hM
  have l1 := hX.lt
  have l2 := hC.lt
  clear hM
  go_enter Try.func104, Try.ntmps104
  go_wp2_with fail
  go_region_held3 (fun w' => w'.cell? ⟨bx, 0, none⟩ = some (.pointer (some ⟨g, 0, none⟩)) ∧ w'.cell? ⟨cb, 0, none⟩ = some (.int .u64 nn)) (first | (go_keep; done) | (go_split_ands; (repeat' apply And.intro) <;> first | assumption | (refine (Fr.cell (S := No) (by assumption) (by first | (simp; done) | (simp; omega) | omega) id).trans ?_; first | assumption | (simp; done) | (simp; assumption)) | (refine (Fr.frozen (S := No) (by assumption) (by first | (simp; done) | (simp; omega) | omega) id).trans ?_; first | assumption | (simp; done) | (simp; assumption))))
    (first | ((go_at_call 67; refine (Index_ _ _ k4 k5).mono ?_; rintro e w5 ⟨rfl, hf5⟩; have hB5 := hf5.keepNo hB.drew; have hX5 := hf5.keepNo hX.drew; have hC5 := hf5.keepNo hC.drew; have D5 := hX5.cells; have E5 := hC5.cells; have hF5 := ((Fr.refl No w).drew).then hf5; have hM5 := HM.out.no hF5)) | ((go_at_call 105; refine (swap_ _ hB5 hgM hM5 hn _ k2 k3 (by omega) (by omega)).mono ?_; rintro e w6 ⟨rfl, L6, hE6, hM6, hf6⟩; have hX6 := Fr.keep hf6 hX5 hbM; have hC6 := Fr.keep hf6 hC5 hcM; have D6 := hX6.cells; have E6 := hC6.cells)))
  all_goals
    go_wp2_with fail
    have s5 := hF5.size
    exact HE.out w6 L6 (fun i hi => hE6 i (Nat.lt_of_lt_of_le hi s5)) hM6 ((FrL.ofNo hF5).then hf6 (Ext.refl _ _))
theorem giveLast_ (w : World) (place i wv nn : Int) (f : Value) (hB : Blk w g #[.int .i64 n, .int .i64 s, .int .i64 h, .int .u32 t, .int .i64 place, .int .u32 i, .int .u64 wv, f, .int .i64 0] 132) (hgL : L g = kX) (hk : kX ≠ kM)
    (hM : MemAt w (Lab L w kM) gm ws c) (hn : c ≤ 1000000) (hok : Mch.ok ⟨true, place, i, wv, 2, nn, 0⟩) {bx : Nat} (hX : Blk w bx #[.pointer (some ⟨g, 0, none⟩)] 59) (hbL : L bx = kX) :
    Calls Try.prog 106 #[.pointer (some ⟨gm, 0, none⟩), .pointer (some ⟨bx, 0, none⟩)] w (StepPost L w kM kX g gm n s h t (mstep n s h ⟨true, place, i, wv, 2, nn, 0⟩ ws c)) := by
  have hgM : ¬ L g = kM := by rw [hgL]; exact hk
  have hbM : ¬ L bx = kM := by rw [hbL]; exact hk
  obtain ⟨r, hr⟩ : ∃ r, r = StepPost L w kM kX g gm n s h t (mstep n s h ⟨true, place, i, wv, 2, nn, 0⟩ ws c) := ⟨_, rfl⟩
  have HE := Lib.hid (fun w6 L' => last_end (L := L) (L' := L') (kM := kM) (kX := kX) (gm := gm) (ws := ws) (c := c) w w6 (gv := true) place i wv nn f hB hgL hgM hok)
  rw [← hr] at HE ⊢
  clear hr
  obtain ⟨k0, k1, k2, k3, k4, k5⟩ := hok
  simp only at k0 k1 k2 k3 k4 k5
  have d0 := hX.cells 0
  have C := hB.cells
  have c0 := C 5
  simp at d0 c0
  clear C
  have HM := Lib.hid hM
  have l1 := hX.lt
  have l2 := hB.lt
  clear hM
  go_enter Try.func106, Try.ntmps106
  go_wp2_with fail
  have hB5 := hB.drew
  have hM5 := HM.out.no ((Fr.refl No w).drew)
  have hX5 := hX.drew
  have hF5 := (Fr.refl No w).drew
  go_region_held3 (fun w' => w'.cell? ⟨bx, 0, none⟩ = some (.pointer (some ⟨g, 0, none⟩)) ∧ w'.cell? ⟨g, 5, none⟩ = some (.int .u32 i)) (first | (go_keep; done) | (go_split_ands; (repeat' apply And.intro) <;> first | assumption | (refine (Fr.cell (S := No) (by assumption) (by first | (simp; done) | (simp; omega) | omega) id).trans ?_; first | assumption | (simp; done) | (simp; assumption)) | (refine (Fr.frozen (S := No) (by assumption) (by first | (simp; done) | (simp; omega) | omega) id).trans ?_; first | assumption | (simp; done) | (simp; assumption))))
    ((go_at_call 105; refine (swap_ _ hB5 hgM hM5 hn _ k2 k3 k0 k1).mono ?_; rintro e w6 ⟨rfl, L6, hE6, hM6, hf6⟩; have hX6 := Fr.keep hf6 hX5 hbM; have hB6 := Fr.keep hf6 hB5 hgM; have D6 := hX6.cells; have E6 := hB6.cells))
  all_goals
    go_wp2_with fail
    have s5 := hF5.size
    exact HE.out w6 L6 (fun i hi => hE6 i (Nat.lt_of_lt_of_le hi s5)) hM6 ((FrL.ofNo hF5).then hf6 (Ext.refl _ _))
end Go.Proofs.Ytfglpigoljclbaa.H
