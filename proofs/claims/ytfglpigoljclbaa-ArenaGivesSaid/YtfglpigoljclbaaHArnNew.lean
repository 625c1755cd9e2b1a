/- arena: begun, NewTake, NewGive, ends, kept. -/
import Derived.Test.YtfglpigoljclbaaHArnGo
import Derived.Test.YtfglpigoljclbaaHSame
import Derived.Deep.RegionWith
import Derived.WalkLawsBesides
set_option linter.unusedVariables false
set_option linter.unusedSimpArgs false
namespace Go.Proofs.Ytfglpigoljclbaa.H
open Go.RowKit
attribute [local go_sem ↓] Go.wp_at_zero Go.wp_at_succ
variable {w w' a b wr : World} {S T : Nat → Prop} {g gm gB gr k c c' kM kX kI j D : Nat} {ws ws' : List Int} {m m' : Mch} {n s h t : Int} {L L' : Nat → Nat}

/-- How many tries may be Contended: none less than zero. -/
def bud (b : Int) : Int := if b < 0 then 0 else b

theorem begun_ (w : World) (b : Int) (v : Value) (fn : FuncId) (caps : Array Value) (xs : List Int) (hv : Rd w S v (us .u32 xs)) (hl : xs.length ≤ 1000000) (b1 : b ≤ 9223372036854775807) (b0 : -9223372036854775808 ≤ b) :
    Calls Try.prog 98 #[.int .i64 b, v, .func (.func fn) #[] caps] w fun e w' => ∃ vs, e = .returned (.agg #[.int .i64 (bud b), vs, .func (.func fn) #[] caps, Value.nilIface, .int .i64 0, .int .u32 0]) ∧ Own w' (New w.heap.size) 23 1 vs xs.length (us .u32 xs) ∧ Fr No w w' := by
  have HV := Lib.hid hv
  obtain ⟨A, cc, rfl, _, _⟩ := hv.slice
  clear hv
  go_enter Try.func98, Try.ntmps98
  by_cases hb : b < 0
  · have hb1 : bud b = 0 := by rw [bud, if_pos hb]
    have HB1 := Lib.hid hb1
    clear hb1
    go_wp2_with fail
    refine (Clone32 _ S _ (us .u32 xs) (HV.out.keepNo ((Fr.refl No w).alloc _)) (us_one _ _) (by rw [us_len]; omega)).mono ?_
    rintro e w1 ⟨vs, rfl, hO, hf⟩
    rw [us_len] at hO
    obtain ⟨A1, c1, rfl, _, _⟩ := hO.slice
    have hf1 := ((Fr.refl No w).alloc _).then hf
    have hV := hf.keepNo (blk_new w #[.int .i64 0, .slice none 0 0, Value.nilFunc, Value.nilIface, .int .i64 0, .int .u32 0] 159)
    have CV := hV.cells
    have FV := hV.free
    have lV := hV.lt
    have hO2 : Own w1 (New (w.heap.size + 1)) 23 1 (.slice A1 xs.length c1) xs.length (us .u32 xs) := hO.wide (fun i hi _ => by simp only [New, World.size_alloc] at *; omega)
    obtain ⟨gz, hgz⟩ : ∃ gz, gz = w.heap.size := ⟨_, rfl⟩
    rw [← hgz] at hV CV FV lV hO2 ⊢
    have HGZ := Lib.hid hgz
    clear hgz hO
    go_wp2_with fail
    have hst : Fr (fun i => i = gz) w1 ((((((w1.setCell ⟨gz, 0, none⟩ (.int .i64 0)).setCell ⟨gz, 1, none⟩ (.slice A1 xs.length c1)).setCell ⟨gz, 2, none⟩ (.func (.func fn) #[] caps)).setCell ⟨gz, 3, none⟩ Value.nilIface).setCell ⟨gz, 4, none⟩ (.int .i64 0)).setCell ⟨gz, 5, none⟩ (.int .u32 0)) :=
      Fr.setCell (Fr.setCell (Fr.setCell (Fr.setCell (Fr.setCell (Fr.setCell (Fr.refl (fun i => i = gz) w1) (.inr (by rfl)) _) (.inr (by rfl)) _) (.inr (by rfl)) _) (.inr (by rfl)) _) (.inr (by rfl)) _) (.inr (by rfl)) _
    have hV2 := (((((hV.set 0 (.int .i64 0)).set 1 (.slice A1 xs.length c1)).set 2 (.func (.func fn) #[] caps)).set 3 Value.nilIface).set 4 (.int .i64 0)).set 5 (.int .u32 0)
    generalize (((((w1.setCell ⟨gz, 0, none⟩ (.int .i64 0)).setCell ⟨gz, 1, none⟩ (.slice A1 xs.length c1)).setCell ⟨gz, 2, none⟩ (.func (.func fn) #[] caps)).setCell ⟨gz, 3, none⟩ Value.nilIface).setCell ⟨gz, 4, none⟩ (.int .i64 0)).setCell ⟨gz, 5, none⟩ (.int .u32 0) = wz at hst hV2 ⊢
    have CZ := hV2.cells
    have c0 := CZ 0
    have c1' := CZ 1
    have c2 := CZ 2
    have c3 := CZ 3
    have c4 := CZ 4
    have c5 := CZ 5
    simp at c0 c1' c2 c3 c4 c5
    clear CV FV CZ hV2 lV
    refine bodyPost_ret (v := .agg #[.int .i64 0, .slice A1 xs.length c1, .func (.func fn) #[] caps, Value.nilIface, .int .i64 0, .int .u32 0]) (by simp [results, Try.results98, go_sem, c0, c1', c2, c3, c4, c5]) rfl ⟨_, by rw [HB1.out], (hO2.keep hst (fun i hi h => by simp only [New] at hi; have := HGZ.out; omega)).wide (fun i hi _ => by have := HGZ.out; simp only [New] at *; omega), hf1.trans hst (fun i hi h => by have := HGZ.out; omega)⟩
  · have hb1 : bud b = b := by rw [bud, if_neg hb]
    have HB1 := Lib.hid hb1
    clear hb1
    go_wp2_with fail
    refine (Clone32 _ S _ (us .u32 xs) (HV.out.keepNo ((Fr.refl No w).alloc _)) (us_one _ _) (by rw [us_len]; omega)).mono ?_
    rintro e w1 ⟨vs, rfl, hO, hf⟩
    rw [us_len] at hO
    obtain ⟨A1, c1, rfl, _, _⟩ := hO.slice
    have hf1 := ((Fr.refl No w).alloc _).then hf
    have hV := hf.keepNo (blk_new w #[.int .i64 0, .slice none 0 0, Value.nilFunc, Value.nilIface, .int .i64 0, .int .u32 0] 159)
    have CV := hV.cells
    have FV := hV.free
    have lV := hV.lt
    have hO2 : Own w1 (New (w.heap.size + 1)) 23 1 (.slice A1 xs.length c1) xs.length (us .u32 xs) := hO.wide (fun i hi _ => by simp only [New, World.size_alloc] at *; omega)
    obtain ⟨gz, hgz⟩ : ∃ gz, gz = w.heap.size := ⟨_, rfl⟩
    rw [← hgz] at hV CV FV lV hO2 ⊢
    have HGZ := Lib.hid hgz
    clear hgz hO
    go_wp2_with fail
    have hst : Fr (fun i => i = gz) w1 ((((((w1.setCell ⟨gz, 0, none⟩ (.int .i64 b)).setCell ⟨gz, 1, none⟩ (.slice A1 xs.length c1)).setCell ⟨gz, 2, none⟩ (.func (.func fn) #[] caps)).setCell ⟨gz, 3, none⟩ Value.nilIface).setCell ⟨gz, 4, none⟩ (.int .i64 0)).setCell ⟨gz, 5, none⟩ (.int .u32 0)) :=
      Fr.setCell (Fr.setCell (Fr.setCell (Fr.setCell (Fr.setCell (Fr.setCell (Fr.refl (fun i => i = gz) w1) (.inr (by rfl)) _) (.inr (by rfl)) _) (.inr (by rfl)) _) (.inr (by rfl)) _) (.inr (by rfl)) _) (.inr (by rfl)) _
    have hV2 := (((((hV.set 0 (.int .i64 b)).set 1 (.slice A1 xs.length c1)).set 2 (.func (.func fn) #[] caps)).set 3 Value.nilIface).set 4 (.int .i64 0)).set 5 (.int .u32 0)
    generalize (((((w1.setCell ⟨gz, 0, none⟩ (.int .i64 b)).setCell ⟨gz, 1, none⟩ (.slice A1 xs.length c1)).setCell ⟨gz, 2, none⟩ (.func (.func fn) #[] caps)).setCell ⟨gz, 3, none⟩ Value.nilIface).setCell ⟨gz, 4, none⟩ (.int .i64 0)).setCell ⟨gz, 5, none⟩ (.int .u32 0) = wz at hst hV2 ⊢
    have CZ := hV2.cells
    have c0 := CZ 0
    have c1' := CZ 1
    have c2 := CZ 2
    have c3 := CZ 3
    have c4 := CZ 4
    have c5 := CZ 5
    simp at c0 c1' c2 c3 c4 c5
    clear CV FV CZ hV2 lV
    refine bodyPost_ret (v := .agg #[.int .i64 b, .slice A1 xs.length c1, .func (.func fn) #[] caps, Value.nilIface, .int .i64 0, .int .u32 0]) (by simp [results, Try.results98, go_sem, c0, c1', c2, c3, c4, c5]) rfl ⟨_, by rw [HB1.out], (hO2.keep hst (fun i hi h => by simp only [New] at hi; have := HGZ.out; omega)).wide (fun i hi _ => by have := HGZ.out; simp only [New] at *; omega), hf1.trans hst (fun i hi h => by have := HGZ.out; omega)⟩

theorem ANewTake_ (w : World) (L : Nat → Nat) (kX kI : Nat) (n s h t b : Int) (v : Value) (xs : List Int) (hv : Rd w S v (us .u32 xs)) (hl : xs.length ≤ 1000000) (b1 : b ≤ 9223372036854775807) (b0 : -9223372036854775808 ≤ b) (hx : ∀ j, 0 ≤ xs.getD j 0 ∧ xs.getD j 0 < 4294967296) :
    Calls Try.prog 82 #[cfg n s h t, .int .i64 b, v] w fun e w' => ∃ g, e = .returned (.pointer (some ⟨g, 0, none⟩)) ∧ ArnAt w' (re L w kX) kX kI g n s h t ⟨false, bud b, xs, none, 0, 0, 0⟩ ∧ w.heap.size ≤ g ∧ Fr No w w' := by
  have HV := Lib.hid hv
  have HX := Lib.hid hx
  have hB := blk_new w #[.int .i64 n, .int .i64 s, .int .i64 h, .int .u32 t] 25
  clear hv hx
  go_enter Try.func82, Try.ntmps82
  go_wp2_with fail
  refine (begun_ (S := S) _ b v 99 #[.pointer (some ⟨w.heap.size, 0, none⟩)] xs (HV.out.keepNo ((Fr.refl No w).alloc _)) hl b1 b0).mono ?_
  rintro e w1 ⟨vs, rfl, hO, hf⟩
  have hB1 := hf.keepNo hB
  have hf1 := ((Fr.refl No w).alloc _).then hf
  clear hB
  go_wp2_with fail
  go_ret
  have hbb : 0 ≤ bud b ∧ bud b ≤ 9223372036854775807 := by unfold bud; split <;> omega
  have hlab : ∀ i, w.heap.size ≤ i → re L w kX i = kX := fun i hi => by rw [re, if_neg (by omega)]
  refine ⟨w1.heap.size, rfl, ⟨hlab _ hf1.size, ⟨by show -1 ≤ bud b; omega, hbb.2, fun _ => hbb.1, Int.le_refl 0, by show (0 : Int) < _; omega, Int.le_refl 0, by show (0 : Int) < _; omega, HX.out⟩, vs, _, _, blk_new _ _ _, (hO.alloc _).wide (fun i hi hl => ⟨hlab i (by simp only [New, World.size_alloc] at hi; omega), hl⟩), .inl ⟨rfl, w.heap.size, rfl, hB1.alloc _, hlab _ (Nat.le_refl _), by have := hf1.size; simp; omega⟩, rfl, fun _ _ _ h => by simp at h⟩, hf1.size, hf1.alloc _⟩

theorem ANewGive_ (w : World) (L : Nat → Nat) (kX kI : Nat) (n s h t b x : Int) (v : Value) (xs : List Int) (hv : Rd w S v (us .u32 xs)) (hl : xs.length ≤ 1000000) (b1 : b ≤ 9223372036854775807) (b0 : -9223372036854775808 ≤ b) (hx : ∀ j, 0 ≤ xs.getD j 0 ∧ xs.getD j 0 < 4294967296) (x0 : 0 ≤ x) (x1 : x < 4294967296) :
    Calls Try.prog 85 #[cfg n s h t, .int .i64 b, v, .int .u32 x] w fun e w' => ∃ g, e = .returned (.pointer (some ⟨g, 0, none⟩)) ∧ ArnAt w' (re L w kX) kX kI g n s h t ⟨true, bud b, xs, none, 0, 0, x⟩ ∧ w.heap.size ≤ g ∧ Fr No w w' := by
  have HV := Lib.hid hv
  have HX := Lib.hid hx
  clear hv hx
  go_enter Try.func85, Try.ntmps85
  go_wp2_with fail
  obtain ⟨wb, hwb⟩ : ∃ wb, wb = (w.alloc (.cells #[.int .i64 n, .int .i64 s, .int .i64 h, .int .u32 t] 25)).alloc (.cells #[.int .u32 x] 23) := ⟨_, rfl⟩
  have hfb : Fr No w wb := by rw [hwb]; exact ((Fr.refl No w).alloc _).alloc _
  have hB : Blk wb w.heap.size #[.int .i64 n, .int .i64 s, .int .i64 h, .int .u32 t] 25 := by rw [hwb]; exact (blk_new _ _ _).alloc _
  have hI : Blk wb (w.heap.size + 1) #[.int .u32 x] 23 := by rw [hwb]; exact blk_at _ (by simp)
  rw [← hwb]
  clear hwb
  have q0 := hI.cells 0
  simp at q0
  have lI := hI.lt
  go_region_held3 (fun w' => w'.cell? ⟨w.heap.size + 1, 0, none⟩ = some (.int .u32 x)) (first | (go_keep; done) | (go_split_ands; (repeat' apply And.intro) <;> first | assumption | (refine (Fr.cell (S := No) (by assumption) (by first | (simp; done) | (simp; omega) | omega) id).trans ?_; first | assumption | (simp; done) | (simp; assumption)) | (refine (Fr.frozen (S := No) (by assumption) (by first | (simp; done) | (simp; omega) | omega) id).trans ?_; first | assumption | (simp; done) | (simp; assumption))))
    ((go_at_call 98; refine (begun_ (S := S) _ b v 103 #[.pointer (some ⟨w.heap.size, 0, none⟩), .pointer (some ⟨w.heap.size + 1, 0, none⟩)] xs (HV.out.keepNo hfb.drew) hl b1 b0).mono ?_; rintro e w1 ⟨vs, rfl, hO, hf⟩; have hB1 := hf.keepNo hB.drew; have hI1 := hf.keepNo hI.drew; have lI1 := hI1.lt))
  all_goals
    have hf1 := (hfb.drew).then hf
    go_wp2_with fail
    go_ret
    have hbb : 0 ≤ bud b ∧ bud b ≤ 9223372036854775807 := by unfold bud; split <;> omega
    have hlab : ∀ i, w.heap.size ≤ i → re L w kX i = kX := fun i hi => by rw [re, if_neg (by omega)]
    have hz := hfb.size
    refine ⟨w1.heap.size, rfl, ⟨hlab _ hf1.size, ⟨by show -1 ≤ bud b; omega, hbb.2, fun _ => hbb.1, x0, x1, Int.le_refl 0, by show (0 : Int) < _; omega, HX.out⟩, vs, _, _, blk_new _ _ _, (hO.alloc _).wide (fun i hi hl => ⟨hlab i (by simp only [New, World.size_drew] at hi; omega), hl⟩), .inr ⟨rfl, w.heap.size, w.heap.size + 1, rfl, hB1.alloc _, ⟨hlab _ (Nat.le_refl _), by have := hf1.size; simp; omega⟩, hI1.alloc _, hlab _ (by omega), by simp; omega⟩, rfl, fun _ _ _ h => by
      simp at h
      intro hk
      have := hO.2 _ hk
      have := hfb.size
      simp only [New, World.size_drew] at *
      omega⟩, hf1.size, hf1.alloc _⟩

/-- How it ends is stored. -/
theorem ends8_ (w : World) (A : Arn) (st i : Int) (H : ArnAt w L kX kI g n s h t A) (h1 : kX ≠ kI) (hst : ¬ st = 0) (i0 : 0 ≤ i) (i1 : i < 4294967296) :
    Calls Try.prog 100 #[.pointer (some ⟨g, 0, none⟩), .int .i64 st, .int .u32 i] w fun e w' => e = .returned (.tuple #[.int .i64 st, .int .u32 i]) ∧ ArnAt w' L kX kI g n s h t { A with st := st, i := i } ∧ Fr (fun j => j = g) w w' := by
  obtain ⟨hgL, ⟨a0, a1, a2, a3, a4, a5, a6, a7⟩, vs, vf, vn, hB, hS, hF, hN, hap⟩ := H
  have C4 := (hB.cells 4).trans (trc_4 _ _ _ _ _ _ _)
  have C5 := (hB.cells 5).trans (trc_5 _ _ _ _ _ _ _)
  have F := hB.free
  obtain ⟨s1, s2, s3⟩ := arn_store hB hgL h1 hS hF hN 4 (.int .i64 st)
  have hB1 := hB.set 4 (.int .i64 st)
  rw [trc_s4] at hB1
  obtain ⟨s4, s5, s6⟩ := arn_store hB1 hgL h1 s1 s2 s3 5 (.int .u32 i)
  have hB2 := hB1.set 5 (.int .u32 i)
  rw [trc_s5] at hB2
  have K := Lib.hid (show ArnAt ((w.setCell ⟨g, 4, none⟩ (.int .i64 st)).setCell ⟨g, 5, none⟩ (.int .u32 i)) L kX kI g n s h t { A with st := st, i := i } from ⟨hgL, ⟨a0, a1, fun h => absurd h hst, a3, a4, i0, i1, a7⟩, vs, vf, vn, hB2, s4, s5, s6, hap⟩)
  have hf : Fr (fun j => j = g) w ((w.setCell ⟨g, 4, none⟩ (.int .i64 st)).setCell ⟨g, 5, none⟩ (.int .u32 i)) := Fr.setCell (Fr.setCell (Fr.refl (fun j => j = g) w) (.inr (by rfl)) _) (.inr (by rfl)) _
  have HF := Lib.hid hf
  clear s1 s2 s3 s4 s5 s6 hB1 hB2 hB hf a2 hst
  go_enter Try.func100, Try.ntmps100
  go_wp2_with fail
  go_ret2
  exact ⟨rfl, K.out, HF.out⟩

theorem kept_ (w : World) (A : Arn) (H : ArnAt w L kX kI g n s h t A) (hl : A.shelf.length ≤ 1000000) :
    Calls Try.prog 102 #[.pointer (some ⟨g, 0, none⟩)] w fun e w' => ∃ v, e = .returned v ∧ Own w' (New w.heap.size) 23 1 v A.shelf.length (us .u32 A.shelf) ∧ Fr No w w' := by
  obtain ⟨hgL, hok, vs, vf, vn, hB, hS, hF, hN, hap⟩ := H
  obtain ⟨A1, c1, rfl, _, _⟩ := hS.slice
  have C1 := (hB.cells 1).trans (trc_1 _ _ _ _ _ _ _)
  have HR := Lib.hid hS.rd
  clear hok hF hN hB hS
  go_enter Try.func102, Try.ntmps102
  go_wp2_with fail
  refine (Clone32 _ _ _ (us .u32 A.shelf) HR.out (us_one _ _) (by rw [us_len]; omega)).mono ?_
  rintro e w1 ⟨v, rfl, hO, hf⟩
  rw [us_len] at hO
  go_wp2_with fail
  go_ret
  exact ⟨v, rfl, hO, hf⟩


theorem ShelfTake (w : World) (A : Arn) (H : ArnAt w L kX kI g n s h t A) (hl : A.shelf.length ≤ 1000000) :
    Calls Try.prog 84 #[.pointer (some ⟨g, 0, none⟩)] w fun e w' => ∃ v, e = .returned v ∧ Own w' (New w.heap.size) 23 1 v A.shelf.length (us .u32 A.shelf) ∧ Fr No w w' := by
  have K := Lib.hid (kept_ w A H hl)
  clear H
  go_enter Try.func84, Try.ntmps84
  go_wp2_with fail
  refine K.out.mono ?_
  rintro e w1 ⟨v, rfl, hO, hf⟩
  go_wp2_with fail
  go_ret
  exact ⟨v, rfl, hO, hf⟩

theorem ShelfGive (w : World) (A : Arn) (H : ArnAt w L kX kI g n s h t A) (hl : A.shelf.length ≤ 1000000) :
    Calls Try.prog 87 #[.pointer (some ⟨g, 0, none⟩)] w fun e w' => ∃ v, e = .returned v ∧ Own w' (New w.heap.size) 23 1 v A.shelf.length (us .u32 A.shelf) ∧ Fr No w w' := by
  have K := Lib.hid (kept_ w A H hl)
  clear H
  go_enter Try.func87, Try.ntmps87
  go_wp2_with fail
  refine K.out.mono ?_
  rintro e w1 ⟨v, rfl, hO, hf⟩
  go_wp2_with fail
  go_ret
  exact ⟨v, rfl, hO, hf⟩

end Go.Proofs.Ytfglpigoljclbaa.H
