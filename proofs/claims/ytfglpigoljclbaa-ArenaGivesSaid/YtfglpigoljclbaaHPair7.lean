/- Law 7's pairs: a step of the program's machine. -/
import Derived.Test.YtfglpigoljclbaaHRef7T
import Derived.Test.YtfglpigoljclbaaHAlone
import Derived.Test.YtfglpigoljclbaaHPick
set_option linter.unusedVariables false
set_option linter.unusedSimpArgs false
namespace Go.Proofs.Ytfglpigoljclbaa.H
open Go.RowKit
attribute [local go_sem ↓] Go.wp_at_zero Go.wp_at_succ
variable {w w' a b : World} {S T : Nat → Prop} {g gm k c c' kM kX : Nat} {ws ws' : List Int} {m m' : Mch} {n s h t : Int} {L L' : Nat → Nat}

/-- What is made from w on bears the label. -/
theorem lab_new {i : Nat} (hi : New w.heap.size i) (hl : i < w'.heap.size) : Lab (re L w k) w' k i := by
  simp only [New] at hi
  exact ⟨by rw [re, if_neg (by omega)], hl⟩
theorem MemAt.born (H : MemAt w' (New w.heap.size) g ws c) (L : Nat → Nat) (k : Nat) : MemAt w' (Lab (re L w k) w' k) g ws c := H.wide fun i hi hl => lab_new hi hl
theorem RefAt.born (H : RefAt w' (New w.heap.size) g ws c) (L : Nat → Nat) (k : Nat) : RefAt w' (Lab (re L w k) w' k) g ws c := H.wide fun i hi hl => lab_new hi hl
theorem MchAt.born (H : MchAt w' (New w.heap.size) g n s h t m) (L : Nat → Nat) (k : Nat) : MchAt w' (Lab (re L w k) w' k) g n s h t m := H.wide fun i hi hl => lab_new hi hl
theorem MchAt.no (H : MchAt w (Lab L w k) g n s h t m) (hf : Fr No w w') : MchAt w' (Lab L w' k) g n s h t m := H.lab (S := fun _ => False) (FrL.ofNo hf) (Ext.refl _ _) id

theorem GoPost.pre {w2 : World} {r : Mch × List Int × Nat} {e : Ending} (hf : FrL L (fun k => k = kM ∨ k = kX) w w2) (H : GoPost L w2 kM kX g gm n s h t r e w') : GoPost L w kM kX g gm n s h t r e w' := by
  obtain ⟨h1, L', h2, h3, h4, h5⟩ := H
  exact ⟨h1, L', fun i hi => h2 i (Nat.lt_of_lt_of_le hi hf.size), h3, h4, hf.then h5 (Ext.refl _ _)⟩

/-- A pair's pointers: its machine is a Give, or a Take. -/
def PairOf (m : Mch) (g : Nat) (vt vg : Value) : Prop := (m.give = true ∧ vg = .pointer (some ⟨g, 0, none⟩)) ∨ (m.give = false ∧ vg = .pointer none ∧ vt = .pointer (some ⟨g, 0, none⟩))

theorem pstep_ (w : World) (vt vg vr : Value) (hv : PairOf m g vt vg) (H : MchAt w (Lab L w kX) g n s h t m) (hk : kX ≠ kM) (hM : MemAt w (Lab L w kM) gm ws c) (hn : c ≤ 1000000) (hw : Words ws) :
    Calls Try.prog 39 #[.agg #[vt, vg, vr], .pointer (some ⟨gm, 0, none⟩)] w (GoPost L w kM kX g gm n s h t (mgo n s h m ws c)) := by
  have hfA : Fr No w (w.alloc (.cells #[vt, vg, vr] 62)) := (Fr.refl No w).alloc _
  rcases hv with ⟨hg, rfl⟩ | ⟨hg, rfl, rfl⟩
  · have K := Lib.hid ((StepGive (w.alloc (.cells #[vt, .pointer (some ⟨g, 0, none⟩), vr] 62)) (H.no hfA) hk (hM.no hfA) hn hw).mono fun e w' h => h.pre (FrL.ofNo hfA))
    clear H hM hfA
    go_enter Try.func39, Try.ntmps39
    go_wp2_with fail
    refine K.out.mono ?_
    rintro e w1 ⟨rfl, h1⟩
    go_wp2_with fail
    go_ret2
    exact ⟨rfl, h1⟩
  · have K := Lib.hid ((StepTake (w.alloc (.cells #[.pointer (some ⟨g, 0, none⟩), .pointer none, vr] 62)) (H.no hfA) hk (hM.no hfA) hn hw).mono fun e w' h => h.pre (FrL.ofNo hfA))
    clear H hM hfA
    go_enter Try.func39, Try.ntmps39
    go_wp2_with fail
    refine K.out.mono ?_
    rintro e w1 ⟨rfl, h1⟩
    go_wp2_with fail
    go_ret2
    exact ⟨rfl, h1⟩

/-- What a step leaves. -/
def Left (L : Nat → Nat) (w : World) (kM kX g gm : Nat) (n s h t : Int) (m' : Mch) (ws' : List Int) (c' : Nat) (w' : World) : Prop :=
  ∃ L', Ext L L' w ∧ MchAt w' (Lab L' w' kX) g n s h t m' ∧ MemAt w' (Lab L' w' kM) gm ws' c' ∧ FrL L (fun k => k = kM ∨ k = kX) w w'

/-- A step's answer, known ahead. -/
def Steps (st td : Int) (L : Nat → Nat) (w : World) (kM kX g gm : Nat) (n s h t : Int) (m' : Mch) (ws' : List Int) (c' : Nat) (e : Ending) (w' : World) : Prop :=
  e = .returned (.tuple #[.int .i64 st, .int .u32 td]) ∧ Left L w kM kX g gm n s h t m' ws' c' w'

theorem GoPost.to {r : Mch × List Int × Nat} {e : Ending} {st td : Int} (H : GoPost L w kM kX g gm n s h t r e w') (hr : r = (m', ws', c')) (h1 : m'.st = st) (h2 : m'.told = td) : Steps st td L w kM kX g gm n s h t m' ws' c' e w' := by
  subst hr h1 h2
  exact H

theorem told_run (h : m.st = 0) : m.told = 0 := by unfold Mch.told; rw [if_neg (by omega)]
theorem told_done (h : m.st = 1) : m.told = m.i := by unfold Mch.told; rw [if_pos h]
theorem told_not (h : ¬ m.st = 1) : m.told = 0 := by unfold Mch.told; rw [if_neg h]

/-- The blocks of w bear label 0: nobody's. -/
def Old (L : Nat → Nat) (w : World) : Prop := ∀ i, i < w.heap.size → L i = 0
theorem Old.zero (w : World) : Old (fun _ => 0) w := fun _ _ => rfl
theorem Old.ext {v : World} (h : Old L v) (he : Ext L L' w) (hs : v.heap.size ≤ w.heap.size) : Old L' v := fun i hi => (he i (by omega)).trans (h i hi)
theorem Old.fr {v : World} {p : Nat → Prop} (h : Old L v) (hf : Fr No v a) (hf' : FrL L p a b) (hp : ¬ p 0) : Fr No v b :=
  Fr.trans hf hf' fun i hi h' => hp (by rw [← h i hi]; exact h')

/-- Fresh words, with a name for their number. -/
theorem Fresh_N (w : World) (n s h t : Int) (N : Nat) (hN : 2 + 2 * n + s + h = N) (ok : cfgOk n s h) (t0 : 0 ≤ t) (t1 : t < 4294967296) :
    Calls Try.prog 25 #[cfg n s h t] w fun e w' => ∃ g cap, e = .returned (.tuple #[.slice (some ⟨g, 0, none⟩) N cap, .int .i64 0]) ∧
      Own w' (New w.heap.size) 26 1 (.slice (some ⟨g, 0, none⟩) N cap) N (us .u64 (freshL n s h t)) ∧ Fr No w w' := by
  have e : N = (2 + 2 * n + s + h).toNat := by omega
  subst e
  exact Fresh_yes w n s h t ok t0 t1
end Go.Proofs.Ytfglpigoljclbaa.H
