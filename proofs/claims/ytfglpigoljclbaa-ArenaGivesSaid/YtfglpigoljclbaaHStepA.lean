/- taglist: a step of a Take or of a Give. -/
import Derived.Test.YtfglpigoljclbaaHStepL
set_option linter.unusedVariables false
set_option linter.unusedSimpArgs false
namespace Go.Proofs.Ytfglpigoljclbaa.H
open Go.RowKit
attribute [local go_sem ↓] Go.wp_at_zero Go.wp_at_succ
variable {w w' a b : World} {S T : Nat → Prop} {g gm k c kM kX : Nat} {ws : List Int} {m : Mch} {n s h t : Int} {L L' : Nat → Nat}

/-- What a machine's step tells and does. -/
def GoPost (L : Nat → Nat) (w : World) (kM kX g gm : Nat) (n s h t : Int) (r : Mch × List Int × Nat) (e : Ending) (w' : World) : Prop :=
  e = .returned (.tuple #[.int .i64 r.1.st, .int .u32 r.1.told]) ∧ ∃ L', Ext L L' w ∧ MchAt w' (Lab L' w' kX) g n s h t r.1 ∧ MemAt w' (Lab L' w' kM) gm r.2.1 r.2.2 ∧ FrL L (fun k => k = kM ∨ k = kX) w w'

theorem mty_ne (m : Mch) : mty m ≠ 59 ∧ mty m ≠ 58 ∧ mty m ≠ 26 := by unfold mty; split <;> decide

/-- The machine's own cells are no boxes. -/
theorem NextFn.set8 {f u : Value} {cs : Array Value} (H : NextFn w S g m f) (hB : Blk w g cs (mty m)) : NextFn (w.setCell ⟨g, 8, none⟩ u) S g m f := by
  obtain ⟨e1, e2, e3⟩ := mty_ne m
  rcases H with h | h | ⟨h1, h2, p, h3, h4, h5⟩ | h | h | ⟨h1, h2, p, q, h3, h4, h5, h6, h7⟩
  · exact .inl h
  · exact .inr (.inl h)
  · exact .inr (.inr (.inl ⟨h1, h2, p, h3, h4.far (p := ⟨g, 8, none⟩) (blk_ne h4 hB (Ne.symm e1)) _, h5⟩))
  · exact .inr (.inr (.inr (.inl h)))
  · exact .inr (.inr (.inr (.inr (.inl h))))
  · exact .inr (.inr (.inr (.inr (.inr ⟨h1, h2, p, q, h3, h4.far (p := ⟨g, 8, none⟩) (blk_ne h4 hB (Ne.symm e2)) _, h5, h6.far (p := ⟨g, 8, none⟩) (blk_ne h6 hB (Ne.symm e3)) _, h7⟩))))

set_option maxHeartbeats 4000000 in
theorem step_run (w : World) (H : MchAt w (Lab L w kX) g n s h t m) (hk : kX ≠ kM) (hst : m.st = 0) (hM : MemAt w (Lab L w kM) gm ws c) (hn : c ≤ 1000000) (hw : Words ws) :
    Calls Try.prog 80 #[.pointer (some ⟨g, 0, none⟩), .pointer (some ⟨gm, 0, none⟩)] w (GoPost L w kM kX g gm n s h t (mstep n s h m ws c)) := by
  obtain ⟨gv, place, i, wv, pc, nn, st⟩ := m
  obtain ⟨⟨hgL, _⟩, hok, f, hB, hf⟩ := H
  simp only at hst
  subst hst
  have hf := hf rfl
  have C := hB.cells
  rcases hf with ⟨h1, h2, h3⟩ | ⟨h1, h2, h3⟩ | ⟨h1, h2, p, h3, h4, h5⟩ | ⟨h1, h2, h3⟩ | ⟨h1, h2, h3⟩ | ⟨h1, h2, p, q, h3, h4, h5, h6, h7⟩
  all_goals
    simp only at h1 h2 h3
    subst h1 h2 h3
  · have K := giveHead_ w place i wv nn _ hB hgL hk hM hn hw hok
    revert K
    generalize mstep n s h _ ws c = r
    intro K0
    have K := Lib.hid K0
    clear hB hM hok K0
    go_enter Try.func80, Try.ntmps80
    go_wp2_with fail
    refine K.out.mono ?_
    clear K C
    obtain ⟨⟨gv', place', i', wv', pc', nn', st'⟩, ws', c'⟩ := r
    rintro e w1 ⟨rfl, L1, hE1, ⟨⟨hg1, _⟩, hok1, f1, hB1, hn1⟩, hM1, hf1⟩
    have C1 := hB1.cells
    have F1 := hB1.free
    have hgL1 : L1 g = kX := hg1
    have hB2 := hB1.set 8 (.int .i64 st')
    have C2 := hB2.cells
    have q5 := C2 5
    have q8 := C2 8
    simp at q5 q8
    have hM2 := hM1.setX hgL1 hk 8 (.int .i64 st')
    have hf2 : FrL L (fun k => k = kM ∨ k = kX) w (w1.setCell ⟨g, 8, none⟩ (.int .i64 st')) := Fr.setCell hf1 (.inr (.inr hgL)) _
    have hX2 : MchAt (w1.setCell ⟨g, 8, none⟩ (.int .i64 st')) (Lab L1 (w1.setCell ⟨g, 8, none⟩ (.int .i64 st')) kX) g n s h t ⟨gv', place', i', wv', pc', nn', st'⟩ :=
      ⟨⟨hg1, by simpa [World.setCell] using hB1.lt⟩, hok1, f1, hB2, fun e => ((hn1 e).set8 hB1).wide (fun i hi _ => ⟨hi.1, by simpa [World.setCell] using hi.2⟩)⟩
    clear C2
    by_cases hd : st' = 1
    · subst hd
      go_wp2_with fail
      go_quiet (fail)
      go_wp2_with fail
      go_ret2
      exact ⟨rfl, L1, hE1, hX2.lab (S := fun _ => False) (FrL.ofNo ((Fr.refl No _).drewN _)) (Ext.refl _ _) id, hM2.lab (S := fun _ => False) (FrL.ofNo ((Fr.refl No _).drewN _)) (Ext.refl _ _) id, hf2.drewN _⟩
    · have hd' : (st' != 1) = true := by simpa using hd
      go_wp2_with fail
      go_ret2
      exact ⟨by simp only [Mch.told, if_neg hd]; rfl, L1, hE1, hX2, hM2, hf2⟩
  · have K := giveSecond_ w place i wv nn _ hB hgL hk hM hn hw hok
    revert K
    generalize mstep n s h _ ws c = r
    intro K0
    have K := Lib.hid K0
    clear hB hM hok K0
    go_enter Try.func80, Try.ntmps80
    go_wp2_with fail
    refine K.out.mono ?_
    clear K C
    obtain ⟨⟨gv', place', i', wv', pc', nn', st'⟩, ws', c'⟩ := r
    rintro e w1 ⟨rfl, L1, hE1, ⟨⟨hg1, _⟩, hok1, f1, hB1, hn1⟩, hM1, hf1⟩
    have C1 := hB1.cells
    have F1 := hB1.free
    have hgL1 : L1 g = kX := hg1
    have hB2 := hB1.set 8 (.int .i64 st')
    have C2 := hB2.cells
    have q5 := C2 5
    have q8 := C2 8
    simp at q5 q8
    have hM2 := hM1.setX hgL1 hk 8 (.int .i64 st')
    have hf2 : FrL L (fun k => k = kM ∨ k = kX) w (w1.setCell ⟨g, 8, none⟩ (.int .i64 st')) := Fr.setCell hf1 (.inr (.inr hgL)) _
    have hX2 : MchAt (w1.setCell ⟨g, 8, none⟩ (.int .i64 st')) (Lab L1 (w1.setCell ⟨g, 8, none⟩ (.int .i64 st')) kX) g n s h t ⟨gv', place', i', wv', pc', nn', st'⟩ :=
      ⟨⟨hg1, by simpa [World.setCell] using hB1.lt⟩, hok1, f1, hB2, fun e => ((hn1 e).set8 hB1).wide (fun i hi _ => ⟨hi.1, by simpa [World.setCell] using hi.2⟩)⟩
    clear C2
    by_cases hd : st' = 1
    · subst hd
      go_wp2_with fail
      go_quiet (fail)
      go_wp2_with fail
      go_ret2
      exact ⟨rfl, L1, hE1, hX2.lab (S := fun _ => False) (FrL.ofNo ((Fr.refl No _).drewN _)) (Ext.refl _ _) id, hM2.lab (S := fun _ => False) (FrL.ofNo ((Fr.refl No _).drewN _)) (Ext.refl _ _) id, hf2.drewN _⟩
    · have hd' : (st' != 1) = true := by simpa using hd
      go_wp2_with fail
      go_ret2
      exact ⟨by simp only [Mch.told, if_neg hd]; rfl, L1, hE1, hX2, hM2, hf2⟩
  · have K := giveLast_ w place i wv nn _ hB hgL hk hM hn hok h4 h5.1
    revert K
    generalize mstep n s h _ ws c = r
    intro K0
    have K := Lib.hid K0
    clear hB hM hok K0
    go_enter Try.func80, Try.ntmps80
    go_wp2_with fail
    refine K.out.mono ?_
    clear K C
    obtain ⟨⟨gv', place', i', wv', pc', nn', st'⟩, ws', c'⟩ := r
    rintro e w1 ⟨rfl, L1, hE1, ⟨⟨hg1, _⟩, hok1, f1, hB1, hn1⟩, hM1, hf1⟩
    have C1 := hB1.cells
    have F1 := hB1.free
    have hgL1 : L1 g = kX := hg1
    have hB2 := hB1.set 8 (.int .i64 st')
    have C2 := hB2.cells
    have q5 := C2 5
    have q8 := C2 8
    simp at q5 q8
    have hM2 := hM1.setX hgL1 hk 8 (.int .i64 st')
    have hf2 : FrL L (fun k => k = kM ∨ k = kX) w (w1.setCell ⟨g, 8, none⟩ (.int .i64 st')) := Fr.setCell hf1 (.inr (.inr hgL)) _
    have hX2 : MchAt (w1.setCell ⟨g, 8, none⟩ (.int .i64 st')) (Lab L1 (w1.setCell ⟨g, 8, none⟩ (.int .i64 st')) kX) g n s h t ⟨gv', place', i', wv', pc', nn', st'⟩ :=
      ⟨⟨hg1, by simpa [World.setCell] using hB1.lt⟩, hok1, f1, hB2, fun e => ((hn1 e).set8 hB1).wide (fun i hi _ => ⟨hi.1, by simpa [World.setCell] using hi.2⟩)⟩
    clear C2
    by_cases hd : st' = 1
    · subst hd
      go_wp2_with fail
      go_quiet (fail)
      go_wp2_with fail
      go_ret2
      exact ⟨rfl, L1, hE1, hX2.lab (S := fun _ => False) (FrL.ofNo ((Fr.refl No _).drewN _)) (Ext.refl _ _) id, hM2.lab (S := fun _ => False) (FrL.ofNo ((Fr.refl No _).drewN _)) (Ext.refl _ _) id, hf2.drewN _⟩
    · have hd' : (st' != 1) = true := by simpa using hd
      go_wp2_with fail
      go_ret2
      exact ⟨by simp only [Mch.told, if_neg hd]; rfl, L1, hE1, hX2, hM2, hf2⟩
  · have K := takeHead_ w place i wv nn _ hB hgL hk hM hn hw hok
    revert K
    generalize mstep n s h _ ws c = r
    intro K0
    have K := Lib.hid K0
    clear hB hM hok K0
    go_enter Try.func80, Try.ntmps80
    go_wp2_with fail
    refine K.out.mono ?_
    clear K C
    obtain ⟨⟨gv', place', i', wv', pc', nn', st'⟩, ws', c'⟩ := r
    rintro e w1 ⟨rfl, L1, hE1, ⟨⟨hg1, _⟩, hok1, f1, hB1, hn1⟩, hM1, hf1⟩
    have C1 := hB1.cells
    have F1 := hB1.free
    have hgL1 : L1 g = kX := hg1
    have hB2 := hB1.set 8 (.int .i64 st')
    have C2 := hB2.cells
    have q5 := C2 5
    have q8 := C2 8
    simp at q5 q8
    have hM2 := hM1.setX hgL1 hk 8 (.int .i64 st')
    have hf2 : FrL L (fun k => k = kM ∨ k = kX) w (w1.setCell ⟨g, 8, none⟩ (.int .i64 st')) := Fr.setCell hf1 (.inr (.inr hgL)) _
    have hX2 : MchAt (w1.setCell ⟨g, 8, none⟩ (.int .i64 st')) (Lab L1 (w1.setCell ⟨g, 8, none⟩ (.int .i64 st')) kX) g n s h t ⟨gv', place', i', wv', pc', nn', st'⟩ :=
      ⟨⟨hg1, by simpa [World.setCell] using hB1.lt⟩, hok1, f1, hB2, fun e => ((hn1 e).set8 hB1).wide (fun i hi _ => ⟨hi.1, by simpa [World.setCell] using hi.2⟩)⟩
    clear C2
    by_cases hd : st' = 1
    · subst hd
      go_wp2_with fail
      go_quiet (fail)
      go_wp2_with fail
      go_ret2
      exact ⟨rfl, L1, hE1, hX2.lab (S := fun _ => False) (FrL.ofNo ((Fr.refl No _).drewN _)) (Ext.refl _ _) id, hM2.lab (S := fun _ => False) (FrL.ofNo ((Fr.refl No _).drewN _)) (Ext.refl _ _) id, hf2.drewN _⟩
    · have hd' : (st' != 1) = true := by simpa using hd
      go_wp2_with fail
      go_ret2
      exact ⟨by simp only [Mch.told, if_neg hd]; rfl, L1, hE1, hX2, hM2, hf2⟩
  · have K := takeSecond_ w place i wv nn _ hB hgL hk hM hn hw hok
    revert K
    generalize mstep n s h _ ws c = r
    intro K0
    have K := Lib.hid K0
    clear hB hM hok K0
    go_enter Try.func80, Try.ntmps80
    go_wp2_with fail
    refine K.out.mono ?_
    clear K C
    obtain ⟨⟨gv', place', i', wv', pc', nn', st'⟩, ws', c'⟩ := r
    rintro e w1 ⟨rfl, L1, hE1, ⟨⟨hg1, _⟩, hok1, f1, hB1, hn1⟩, hM1, hf1⟩
    have C1 := hB1.cells
    have F1 := hB1.free
    have hgL1 : L1 g = kX := hg1
    have hB2 := hB1.set 8 (.int .i64 st')
    have C2 := hB2.cells
    have q5 := C2 5
    have q8 := C2 8
    simp at q5 q8
    have hM2 := hM1.setX hgL1 hk 8 (.int .i64 st')
    have hf2 : FrL L (fun k => k = kM ∨ k = kX) w (w1.setCell ⟨g, 8, none⟩ (.int .i64 st')) := Fr.setCell hf1 (.inr (.inr hgL)) _
    have hX2 : MchAt (w1.setCell ⟨g, 8, none⟩ (.int .i64 st')) (Lab L1 (w1.setCell ⟨g, 8, none⟩ (.int .i64 st')) kX) g n s h t ⟨gv', place', i', wv', pc', nn', st'⟩ :=
      ⟨⟨hg1, by simpa [World.setCell] using hB1.lt⟩, hok1, f1, hB2, fun e => ((hn1 e).set8 hB1).wide (fun i hi _ => ⟨hi.1, by simpa [World.setCell] using hi.2⟩)⟩
    clear C2
    by_cases hd : st' = 1
    · subst hd
      go_wp2_with fail
      go_quiet (fail)
      go_wp2_with fail
      go_ret2
      exact ⟨rfl, L1, hE1, hX2.lab (S := fun _ => False) (FrL.ofNo ((Fr.refl No _).drewN _)) (Ext.refl _ _) id, hM2.lab (S := fun _ => False) (FrL.ofNo ((Fr.refl No _).drewN _)) (Ext.refl _ _) id, hf2.drewN _⟩
    · have hd' : (st' != 1) = true := by simpa using hd
      go_wp2_with fail
      go_ret2
      exact ⟨by simp only [Mch.told, if_neg hd]; rfl, L1, hE1, hX2, hM2, hf2⟩
  · have K := takeLast_ w place i wv nn _ hB hgL hk hM hn hok h4 h6 h5.1 h7.1
    revert K
    generalize mstep n s h _ ws c = r
    intro K0
    have K := Lib.hid K0
    clear hB hM hok K0
    go_enter Try.func80, Try.ntmps80
    go_wp2_with fail
    refine K.out.mono ?_
    clear K C
    obtain ⟨⟨gv', place', i', wv', pc', nn', st'⟩, ws', c'⟩ := r
    rintro e w1 ⟨rfl, L1, hE1, ⟨⟨hg1, _⟩, hok1, f1, hB1, hn1⟩, hM1, hf1⟩
    have C1 := hB1.cells
    have F1 := hB1.free
    have hgL1 : L1 g = kX := hg1
    have hB2 := hB1.set 8 (.int .i64 st')
    have C2 := hB2.cells
    have q5 := C2 5
    have q8 := C2 8
    simp at q5 q8
    have hM2 := hM1.setX hgL1 hk 8 (.int .i64 st')
    have hf2 : FrL L (fun k => k = kM ∨ k = kX) w (w1.setCell ⟨g, 8, none⟩ (.int .i64 st')) := Fr.setCell hf1 (.inr (.inr hgL)) _
    have hX2 : MchAt (w1.setCell ⟨g, 8, none⟩ (.int .i64 st')) (Lab L1 (w1.setCell ⟨g, 8, none⟩ (.int .i64 st')) kX) g n s h t ⟨gv', place', i', wv', pc', nn', st'⟩ :=
      ⟨⟨hg1, by simpa [World.setCell] using hB1.lt⟩, hok1, f1, hB2, fun e => ((hn1 e).set8 hB1).wide (fun i hi _ => ⟨hi.1, by simpa [World.setCell] using hi.2⟩)⟩
    clear C2
    by_cases hd : st' = 1
    · subst hd
      go_wp2_with fail
      go_quiet (fail)
      go_wp2_with fail
      go_ret2
      exact ⟨rfl, L1, hE1, hX2.lab (S := fun _ => False) (FrL.ofNo ((Fr.refl No _).drewN _)) (Ext.refl _ _) id, hM2.lab (S := fun _ => False) (FrL.ofNo ((Fr.refl No _).drewN _)) (Ext.refl _ _) id, hf2.drewN _⟩
    · have hd' : (st' != 1) = true := by simpa using hd
      go_wp2_with fail
      go_ret2
      exact ⟨by simp only [Mch.told, if_neg hd]; rfl, L1, hE1, hX2, hM2, hf2⟩
end Go.Proofs.Ytfglpigoljclbaa.H
