/- taglist: Take.Step, Give.Step. -/
import Derived.Test.YtfglpigoljclbaaHStepA
set_option linter.unusedVariables false
set_option linter.unusedSimpArgs false
namespace Go.Proofs.Ytfglpigoljclbaa.H
open Go.RowKit
attribute [local go_sem ↓] Go.wp_at_zero Go.wp_at_succ
variable {w w' a b : World} {S T : Nat → Prop} {g gm k c kM kX : Nat} {ws : List Int} {m : Mch} {n s h t : Int} {L L' : Nat → Nat}

theorem step_any (w : World) (H : MchAt w (Lab L w kX) g n s h t m) (hk : kX ≠ kM) (hM : MemAt w (Lab L w kM) gm ws c) (hn : c ≤ 1000000) (hw : Words ws) :
    Calls Try.prog 80 #[.pointer (some ⟨g, 0, none⟩), .pointer (some ⟨gm, 0, none⟩)] w (GoPost L w kM kX g gm n s h t (mgo n s h m ws c)) := by
  by_cases hst : m.st = 0
  · rw [mgo, if_pos hst]
    exact step_run w H hk hst hM hn hw
  · rw [mgo, if_neg hst]
    have H0 := Lib.hid H
    have HM := Lib.hid hM
    obtain ⟨gv, place, i, wv, pc, nn, st⟩ := m
    obtain ⟨⟨hgL, _⟩, hok, f, hB, hf⟩ := H
    simp only at hst
    have C := hB.cells
    have q5 := C 5
    have q8 := C 8
    simp at q5 q8
    clear C hM hf
    have hs' : (st == 0) = false := by simpa using hst
    go_enter Try.func80, Try.ntmps80
    by_cases hd : st = 1
    · subst hd
      go_wp2_with fail
      go_quiet (fail)
      go_wp2_with fail
      go_ret2
      exact ⟨rfl, L, Ext.refl _ _, H0.out.lab (S := fun _ => False) (FrL.ofNo ((Fr.refl No _).drewN _)) (Ext.refl _ _) id, HM.out.lab (S := fun _ => False) (FrL.ofNo ((Fr.refl No _).drewN _)) (Ext.refl _ _) id, (Fr.refl _ _).drewN _⟩
    · have hd' : (st != 1) = true := by simpa using hd
      go_wp2_with fail
      go_ret2
      exact ⟨by simp only [Mch.told, if_neg hd]; rfl, L, Ext.refl _ _, H0.out, HM.out, Fr.refl _ _⟩


theorem StepTake (w : World) (H : MchAt w (Lab L w kX) g n s h t m) (hk : kX ≠ kM) (hM : MemAt w (Lab L w kM) gm ws c) (hn : c ≤ 1000000) (hw : Words ws) :
    Calls Try.prog 48 #[.pointer (some ⟨g, 0, none⟩), .pointer (some ⟨gm, 0, none⟩)] w (GoPost L w kM kX g gm n s h t (mgo n s h m ws c)) := by
  have K := Lib.hid (step_any w H hk hM hn hw)
  clear H hM
  go_enter Try.func48, Try.ntmps48
  go_wp2_with fail
  refine K.out.mono ?_
  rintro e w1 ⟨rfl, h1⟩
  go_wp2_with fail
  go_ret2
  exact ⟨rfl, h1⟩

theorem StepGive (w : World) (H : MchAt w (Lab L w kX) g n s h t m) (hk : kX ≠ kM) (hM : MemAt w (Lab L w kM) gm ws c) (hn : c ≤ 1000000) (hw : Words ws) :
    Calls Try.prog 69 #[.pointer (some ⟨g, 0, none⟩), .pointer (some ⟨gm, 0, none⟩)] w (GoPost L w kM kX g gm n s h t (mgo n s h m ws c)) := by
  have K := Lib.hid (step_any w H hk hM hn hw)
  clear H hM
  go_enter Try.func69, Try.ntmps69
  go_wp2_with fail
  refine K.out.mono ?_
  rintro e w1 ⟨rfl, h1⟩
  go_wp2_with fail
  go_ret2
  exact ⟨rfl, h1⟩

end Go.Proofs.Ytfglpigoljclbaa.H
