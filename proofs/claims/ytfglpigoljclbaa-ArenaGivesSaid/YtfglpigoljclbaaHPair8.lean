/- Law 8's pairs, shown, ends. -/
import Derived.Test.YtfglpigoljclbaaHMade8
import Derived.OwnWalk
set_option linter.unusedVariables false
set_option linter.unusedSimpArgs false
namespace Go.Proofs.Ytfglpigoljclbaa.H
open Go.RowKit
attribute [local go_sem ↓] Go.wp_at_zero Go.wp_at_succ
variable {w w' a b wr : World} {S T : Nat → Prop} {g gm gB gr k c c' kM kX kI kR kS j D : Nat} {ws ws' : List Int} {m m' : Mch} {n s h t : Int} {L L' : Nat → Nat} {vt vg : Value}

/-- What a step leaves, with a shelf's clone. -/
def ALeft (L : Nat → Nat) (w : World) (kM kX kI kS g gm : Nat) (n s h t : Int) (A : Arn) (ws : List Int) (c : Nat) (v : Value) (w' : World) : Prop :=
  ∃ L', Ext L L' w ∧ ArnAt w' L' kX kI g n s h t A ∧ MemAt w' (Lab L' w' kM) gm ws c ∧ Own w' (Lab L' w' kS) 23 1 v A.shelf.length (us .u32 A.shelf) ∧ FrL L (fun k => k = kM ∨ k = kX ∨ k = kI) w w'
def APost (L : Nat → Nat) (w : World) (kM kX kI kS g gm : Nat) (n s h t : Int) (r : Arn × List Int × Nat) (e : Ending) (w' : World) : Prop :=
  ∃ v, e = .returned (.tuple #[.int .i64 r.1.st, .int .u32 r.1.i, v]) ∧ ALeft L w kM kX kI kS g gm n s h t r.1 r.2.1 r.2.2 v w'

theorem astep_len (n s h : Int) (A : Arn) (ws : List Int) (k : Nat) : (astep n s h A ws k).1.shelf.length ≤ A.shelf.length + 1 := by
  obtain ⟨_, _, h3⟩ := ago_keeps n s h A ws k
  unfold astep
  split
  · simp only
    split
    · simp only [List.length_append, h3]; simp
    · rw [h3]; omega
  · split
    · simp only [List.length_take]; omega
    · rw [h3]; omega

theorem astep_end {A : Arn} (h0 : ¬ A.st = 0) (h6 : ¬ A.st = 6) : astep n s h A ws k = (A, ws, k) := by
  have e : ago n s h A ws k = (A, ws, k) := by unfold ago; rw [if_neg h0]
  unfold astep
  rw [e]
  split
  · simp only; rw [if_neg h6]
  · rw [if_neg (fun h => h0 h.2)]


set_option maxHeartbeats 1000000 in
theorem pstep8Take (w : World) (A : Arn) (vr : Value) (hgv : A.give = false) (H : ArnAt w L kX kI g n s h t A) (h1 : kX ≠ kI) (h2 : kM ≠ kX) (h3 : kM ≠ kI) (h4 : kS ≠ kM) (h5 : kS ≠ kX) (h6 : kS ≠ kI) (hM : MemAt w (Lab L w kM) gm ws c) (hn : c ≤ 1000000) (hw : Words ws) (hl : A.shelf.length ≤ 900000) :
    Calls Try.prog 54 #[.agg #[.pointer (some ⟨g, 0, none⟩), .pointer none, vr], .pointer (some ⟨gm, 0, none⟩)] w (APost L w kM kX kI kS g gm n s h t (astep n s h A ws c)) := by
  obtain ⟨wb, hwb⟩ : ∃ wb, wb = w.alloc (.cells #[.pointer (some ⟨g, 0, none⟩), .pointer none, vr] 90) := ⟨_, rfl⟩
  obtain ⟨gb, hgb⟩ : ∃ gb, gb = w.heap.size := ⟨_, rfl⟩
  have hfA : Fr No w wb := by rw [hwb]; exact (Fr.refl No w).alloc _
  have hBb : Blk wb gb #[.pointer (some ⟨g, 0, none⟩), .pointer none, vr] 90 := by rw [hwb]; exact blk_at _ hgb
  obtain ⟨L0, hL0⟩ : ∃ L0, L0 = re L w kS := ⟨_, rfl⟩
  have hE0 : Ext L L0 w := by rw [hL0]; exact ext_re _ _ _
  have hgL : L0 gb = kS := by rw [hL0, hgb, re, if_neg (by omega)]
  have H0 : ArnAt wb L0 kX kI g n s h t A := H.lab (q := fun _ => False) (FrL.ofNo hfA) hE0 id id
  have hM0 : MemAt wb (Lab L0 wb kM) gm ws c := hM.lab (S := fun _ => False) (FrL.ofNo hfA) hE0 id
  have K := Lib.hid (AStepTake wb A H0 h1 h2 h3 hM0 hn hw hgv (by omega))
  have HL := Lib.hid (astep_len n s h A ws c)
  have HA := Lib.hid (And.intro hfA hE0)
  have hgM : ¬ (L0 gb = kM ∨ L0 gb = kX ∨ L0 gb = kI) := by rw [hgL]; omega
  have HG := Lib.hid hgM
  have C0 := hBb.cells
  have l0 := hBb.lt
  obtain ⟨r, hr⟩ : ∃ r, r = astep n s h A ws c := ⟨_, rfl⟩
  rw [← hr] at K HL ⊢
  have HW := Lib.hid hwb
  have HGB := Lib.hid hgb
  clear H hM H0 hM0 hL0 hgL hr hfA hE0 hgM hw
  go_enter Try.func54, Try.ntmps54
  go_wp2_with fail
  rw [← hwb, ← hgb]
  clear hwb hgb
  go_wp2_with fail
  refine K.out.mono ?_
  rintro e w1 ⟨rfl, L1, hE1, hA1, hM1, hf1⟩
  have hB1 := Fr.keep hf1 hBb HG.out
  have C1 := hB1.cells
  have l1 := hB1.lt
  clear C0 l0 hBb
  go_wp2_with fail
  refine (ShelfTake _ r.1 hA1 (by have := HL.out; omega)).mono ?_
  rintro e w2 ⟨v, rfl, hO2, hf2⟩
  clear C1 l1 hB1
  go_wp2_with fail
  go_ret3
  have hE2 : Ext L (re L1 w1 kS) w := (HA.out.2.trans hE1 HA.out.1.size).trans (ext_re _ _ _) (Nat.le_trans HA.out.1.size hf1.size)
  refine ⟨v, rfl, _, hE2, hA1.lab (q := fun _ => False) (FrL.ofNo hf2) (ext_re _ _ _) id id, hM1.lab (S := fun _ => False) (FrL.ofNo hf2) (ext_re _ _ _) id, hO2.wide fun i hi hl => lab_new hi hl, ?_⟩
  exact ((FrL.ofNo HA.out.1).then hf1 HA.out.2).then (FrL.ofNo hf2) (HA.out.2.trans hE1 HA.out.1.size)

set_option maxHeartbeats 1000000 in
theorem pstep8Give (w : World) (A : Arn) (vr : Value) (hgv : A.give = true) (H : ArnAt w L kX kI g n s h t A) (h1 : kX ≠ kI) (h2 : kM ≠ kX) (h3 : kM ≠ kI) (h4 : kS ≠ kM) (h5 : kS ≠ kX) (h6 : kS ≠ kI) (hM : MemAt w (Lab L w kM) gm ws c) (hn : c ≤ 1000000) (hw : Words ws) (hl : A.shelf.length ≤ 900000) :
    Calls Try.prog 54 #[.agg #[.pointer none, .pointer (some ⟨g, 0, none⟩), vr], .pointer (some ⟨gm, 0, none⟩)] w (APost L w kM kX kI kS g gm n s h t (astep n s h A ws c)) := by
  obtain ⟨wb, hwb⟩ : ∃ wb, wb = w.alloc (.cells #[.pointer none, .pointer (some ⟨g, 0, none⟩), vr] 90) := ⟨_, rfl⟩
  obtain ⟨gb, hgb⟩ : ∃ gb, gb = w.heap.size := ⟨_, rfl⟩
  have hfA : Fr No w wb := by rw [hwb]; exact (Fr.refl No w).alloc _
  have hBb : Blk wb gb #[.pointer none, .pointer (some ⟨g, 0, none⟩), vr] 90 := by rw [hwb]; exact blk_at _ hgb
  obtain ⟨L0, hL0⟩ : ∃ L0, L0 = re L w kS := ⟨_, rfl⟩
  have hE0 : Ext L L0 w := by rw [hL0]; exact ext_re _ _ _
  have hgL : L0 gb = kS := by rw [hL0, hgb, re, if_neg (by omega)]
  have H0 : ArnAt wb L0 kX kI g n s h t A := H.lab (q := fun _ => False) (FrL.ofNo hfA) hE0 id id
  have hM0 : MemAt wb (Lab L0 wb kM) gm ws c := hM.lab (S := fun _ => False) (FrL.ofNo hfA) hE0 id
  have K := Lib.hid (AStepGive wb A H0 h1 h2 h3 hM0 hn hw hgv (by omega))
  have HL := Lib.hid (astep_len n s h A ws c)
  have HA := Lib.hid (And.intro hfA hE0)
  have hgM : ¬ (L0 gb = kM ∨ L0 gb = kX ∨ L0 gb = kI) := by rw [hgL]; omega
  have HG := Lib.hid hgM
  have C0 := hBb.cells
  have l0 := hBb.lt
  obtain ⟨r, hr⟩ : ∃ r, r = astep n s h A ws c := ⟨_, rfl⟩
  rw [← hr] at K HL ⊢
  have HW := Lib.hid hwb
  have HGB := Lib.hid hgb
  clear H hM H0 hM0 hL0 hgL hr hfA hE0 hgM hw
  go_enter Try.func54, Try.ntmps54
  go_wp2_with fail
  rw [← hwb, ← hgb]
  clear hwb hgb
  go_wp2_with fail
  refine K.out.mono ?_
  rintro e w1 ⟨rfl, L1, hE1, hA1, hM1, hf1⟩
  have hB1 := Fr.keep hf1 hBb HG.out
  have C1 := hB1.cells
  have l1 := hB1.lt
  clear C0 l0 hBb
  go_wp2_with fail
  refine (ShelfGive _ r.1 hA1 (by have := HL.out; omega)).mono ?_
  rintro e w2 ⟨v, rfl, hO2, hf2⟩
  clear C1 l1 hB1
  go_wp2_with fail
  go_ret3
  have hE2 : Ext L (re L1 w1 kS) w := (HA.out.2.trans hE1 HA.out.1.size).trans (ext_re _ _ _) (Nat.le_trans HA.out.1.size hf1.size)
  refine ⟨v, rfl, _, hE2, hA1.lab (q := fun _ => False) (FrL.ofNo hf2) (ext_re _ _ _) id id, hM1.lab (S := fun _ => False) (FrL.ofNo hf2) (ext_re _ _ _) id, hO2.wide fun i hi hl => lab_new hi hl, ?_⟩
  exact ((FrL.ofNo HA.out.1).then hf1 HA.out.2).then (FrL.ofNo hf2) (HA.out.2.trans hE1 HA.out.1.size)


theorem pstep8_ (w : World) (A : Arn) (vt vg vr : Value) (hv : APairOf A.give g vt vg) (H : ArnAt w L kX kI g n s h t A) (h1 : kX ≠ kI) (h2 : kM ≠ kX) (h3 : kM ≠ kI) (h4 : kS ≠ kM) (h5 : kS ≠ kX) (h6 : kS ≠ kI) (hM : MemAt w (Lab L w kM) gm ws c) (hn : c ≤ 1000000) (hw : Words ws) (hl : A.shelf.length ≤ 900000) :
    Calls Try.prog 54 #[.agg #[vt, vg, vr], .pointer (some ⟨gm, 0, none⟩)] w (APost L w kM kX kI kS g gm n s h t (astep n s h A ws c)) := by
  rcases hv with ⟨hg, rfl, rfl⟩ | ⟨hg, rfl, rfl⟩
  · exact pstep8Give w A vr hg H h1 h2 h3 h4 h5 h6 hM hn hw hl
  · exact pstep8Take w A vr hg H h1 h2 h3 h4 h5 h6 hM hn hw hl

theorem APost.to {r : Arn × List Int × Nat} {e : Ending} {A' : Arn} (H : APost L w kM kX kI kS g gm n s h t r e w') (hr : r = (A', ws', c')) : ∃ v, e = .returned (.tuple #[.int .i64 A'.st, .int .u32 A'.i, v]) ∧ ALeft L w kM kX kI kS g gm n s h t A' ws' c' v w' := by
  subst hr
  exact H
end Go.Proofs.Ytfglpigoljclbaa.H
