/- Law 7's made: a machine of a job, and the document's. -/
import Derived.Test.YtfglpigoljclbaaHBs7
set_option linter.unusedVariables false
set_option linter.unusedSimpArgs false
namespace Go.Proofs.Ytfglpigoljclbaa.H
open Go.RowKit
attribute [local go_sem ↓] Go.wp_at_zero Go.wp_at_succ
variable {w w' a b wr : World} {S T : Nat → Prop} {g gm gB gr k c c' kM kX j D : Nat} {ws ws' : List Int} {m m' : Mch} {n s h t : Int} {L L' : Nat → Nat} {vt vg : Value}

/-- A machine's first step needs no boxes. -/
theorem MchAt.only (H : MchAt w S g n s h t m) (hpc : m.pc = 0) : MchAt w (fun i => i = g) g n s h t m := by
  obtain ⟨h1, h2, f, h3, h4⟩ := H
  refine ⟨rfl, h2, f, h3, fun e => ?_⟩
  rcases h4 e with h | ⟨_, h, _⟩ | ⟨_, h, _⟩ | h | ⟨_, h, _⟩ | ⟨_, h, _⟩
  · exact .inl h
  · omega
  · omega
  · exact .inr (.inr (.inr (.inl h)))
  · omega
  · omega

/-- The machine of a job. -/
def jobM (gv head : Bool) (at' i : Int) : Mch := ⟨gv, if head then at' else 1, if gv then i % 4294967296 else 0, 0, 0, 0, 0⟩

def MadePost (w : World) (n s h t : Int) (m : Mch) (e : Ending) (w' : World) : Prop :=
  ∃ g r vt vg, e = .returned (.agg #[vt, vg, .pointer (some ⟨r, 0, none⟩)]) ∧ PairOf m g vt vg ∧ (m.give = true → vt = .pointer none) ∧ MchAt w' (fun i => i = g) g n s h t m ∧ RchAt w' (fun i => i = r) r n s h t m ∧ w.heap.size ≤ g ∧ w.heap.size ≤ r ∧ Fr No w w'

set_option maxHeartbeats 4000000 in
theorem made7_ (w : World) (n s h t : Int) (gv head : Bool) (at' i : Int) :
    Calls Try.prog 37 #[cfg n s h t, .agg #[.bool gv, .bool head, .int .i64 at', .int .i64 i]] w (MadePost w n s h t (jobM gv head at' i)) := by
  cases gv with
  | true =>
    cases head with
    | true =>
      rw [show jobM true true at' i = ⟨true, at', i % 4294967296, 0, 0, 0, 0⟩ from by simp [jobM]]
      go_enter Try.func37, Try.ntmps37
      go_wp2_with fail
      generalize hwA : World.alloc (World.alloc (World.alloc (World.alloc w _) _) _) _ = wA
      have hfA : Fr No w wA := by rw [← hwA]; (repeat (first | exact Fr.refl _ _ | refine Fr.setCell ?_ (.inl (by first | (simp; done) | (simp; omega) | omega)) _ | refine Fr.alloc ?_ _ | refine Fr.drew ?_ | refine Fr.drewN ?_ _ | refine Fr.thenNo ?_ (by assumption)))
      have hV : Blk wA (w.heap.size + 1 + 1) #[.pointer none, .pointer none, .pointer none] 62 := by rw [← hwA]; exact (blk_at _ (by simp)).alloc _
      have hR : Blk wA (w.heap.size + 1 + 1 + 1) (rcells n s h t at' true (i % 4294967296) 0 0 0 0) 119 := by rw [← hwA]; exact blk_at _ (by simp)
      clear hwA
      obtain ⟨gv', hgv'⟩ : ∃ gv', gv' = w.heap.size + 1 + 1 := ⟨_, rfl⟩
      obtain ⟨r, hr⟩ : ∃ r, r = w.heap.size + 1 + 1 + 1 := ⟨_, rfl⟩
      rw [← hgv'] at hV
      rw [← hr] at hR
      have HG := Lib.hid hgv'
      have HR := Lib.hid hr
      refine (NewGive_ _ n s h t at' (i % 4294967296) (by omega) (by omega)).mono ?_
      rintro e w1 ⟨g, rfl, hX, hf⟩
      have hV1 := hf.keepNo hV
      have hR1 := hf.keepNo hR
      have CV := hV1.cells
      have FV := hV1.free
      have lV := hV1.lt
      have hXo := hX.only rfl
      have hgw := hX.1
      have hne : r ≠ gv' := by omega
      have hgne : g ≠ gv' := by have := hV.lt; simp only [New] at hgw; omega
      rw [← hr, ← hgv']
      clear hgv' hr hX hV hR
      go_wp2_with fail
      have hV2 := ((hV1.set 0 (.pointer none)).set 1 (.pointer (some ⟨g, 0, none⟩))).set 2 (.pointer (some ⟨r, 0, none⟩))
      have hst : Fr (fun i => i = gv') w1 (((w1.setCell ⟨gv', 0, none⟩ (.pointer none)).setCell ⟨gv', 1, none⟩ (.pointer (some ⟨g, 0, none⟩))).setCell ⟨gv', 2, none⟩ (.pointer (some ⟨r, 0, none⟩))) := Fr.setCell (Fr.setCell (Fr.setCell (Fr.refl (fun i => i = gv') w1) (.inr (by rfl)) _) (.inr (by rfl)) _) (.inr (by rfl)) _
      have hgg : w.heap.size ≤ gv' := by have := HG.out; omega
      have hst2 : Fr No w (((w1.setCell ⟨gv', 0, none⟩ (.pointer none)).setCell ⟨gv', 1, none⟩ (.pointer (some ⟨g, 0, none⟩))).setCell ⟨gv', 2, none⟩ (.pointer (some ⟨r, 0, none⟩))) := Fr.setCell (Fr.setCell (Fr.setCell (hfA.then hf) (.inl hgg) _) (.inl hgg) _) (.inl hgg) _
      generalize ((w1.setCell ⟨gv', 0, none⟩ (.pointer none)).setCell ⟨gv', 1, none⟩ (.pointer (some ⟨g, 0, none⟩))).setCell ⟨gv', 2, none⟩ (.pointer (some ⟨r, 0, none⟩)) = wz at hV2 hst hst2 ⊢
      have CZ := hV2.cells
      have c0 := CZ 0
      have c1 := CZ 1
      have c2 := CZ 2
      simp at c0 c1 c2
      clear CV FV CZ hV2
      refine bodyPost_ret (v := .agg #[.pointer none, .pointer (some ⟨g, 0, none⟩), .pointer (some ⟨r, 0, none⟩)]) (by simp [results, Try.results37, go_sem, c0, c1, c2]) rfl ⟨g, r, _, _, rfl, .inl ⟨rfl, rfl⟩, (fun h => by first | rfl | cases h), hXo.move hst (fun i hi => by rw [hi]; exact hgne), ⟨rfl, hXo.2.1, _, _, _, _, hst.keep hR1 hne, fun _ => rfl, fun _ => ⟨rfl, rfl, by show (0 : Nat) ≤ 2; omega, (fun h => by cases h), (fun h => by cases h)⟩⟩, by have := hfA.size; simp only [New] at hgw; omega, by have := HR.out; omega, hst2⟩
    | false =>
      rw [show jobM true false at' i = ⟨true, 1, i % 4294967296, 0, 0, 0, 0⟩ from by simp [jobM]]
      go_enter Try.func37, Try.ntmps37
      go_wp2_with fail
      generalize hwA : World.alloc (World.alloc (World.alloc (World.alloc w _) _) _) _ = wA
      have hfA : Fr No w wA := by rw [← hwA]; (repeat (first | exact Fr.refl _ _ | refine Fr.setCell ?_ (.inl (by first | (simp; done) | (simp; omega) | omega)) _ | refine Fr.alloc ?_ _ | refine Fr.drew ?_ | refine Fr.drewN ?_ _ | refine Fr.thenNo ?_ (by assumption)))
      have hV : Blk wA (w.heap.size + 1 + 1) #[.pointer none, .pointer none, .pointer none] 62 := by rw [← hwA]; exact (blk_at _ (by simp)).alloc _
      have hR : Blk wA (w.heap.size + 1 + 1 + 1) (rcells n s h t 1 true (i % 4294967296) 0 0 0 0) 119 := by rw [← hwA]; exact blk_at _ (by simp)
      clear hwA
      obtain ⟨gv', hgv'⟩ : ∃ gv', gv' = w.heap.size + 1 + 1 := ⟨_, rfl⟩
      obtain ⟨r, hr⟩ : ∃ r, r = w.heap.size + 1 + 1 + 1 := ⟨_, rfl⟩
      rw [← hgv'] at hV
      rw [← hr] at hR
      have HG := Lib.hid hgv'
      have HR := Lib.hid hr
      refine (NewGive_ _ n s h t 1 (i % 4294967296) (by omega) (by omega)).mono ?_
      rintro e w1 ⟨g, rfl, hX, hf⟩
      have hV1 := hf.keepNo hV
      have hR1 := hf.keepNo hR
      have CV := hV1.cells
      have FV := hV1.free
      have lV := hV1.lt
      have hXo := hX.only rfl
      have hgw := hX.1
      have hne : r ≠ gv' := by omega
      have hgne : g ≠ gv' := by have := hV.lt; simp only [New] at hgw; omega
      rw [← hr, ← hgv']
      clear hgv' hr hX hV hR
      go_wp2_with fail
      have hV2 := ((hV1.set 0 (.pointer none)).set 1 (.pointer (some ⟨g, 0, none⟩))).set 2 (.pointer (some ⟨r, 0, none⟩))
      have hst : Fr (fun i => i = gv') w1 (((w1.setCell ⟨gv', 0, none⟩ (.pointer none)).setCell ⟨gv', 1, none⟩ (.pointer (some ⟨g, 0, none⟩))).setCell ⟨gv', 2, none⟩ (.pointer (some ⟨r, 0, none⟩))) := Fr.setCell (Fr.setCell (Fr.setCell (Fr.refl (fun i => i = gv') w1) (.inr (by rfl)) _) (.inr (by rfl)) _) (.inr (by rfl)) _
      have hgg : w.heap.size ≤ gv' := by have := HG.out; omega
      have hst2 : Fr No w (((w1.setCell ⟨gv', 0, none⟩ (.pointer none)).setCell ⟨gv', 1, none⟩ (.pointer (some ⟨g, 0, none⟩))).setCell ⟨gv', 2, none⟩ (.pointer (some ⟨r, 0, none⟩))) := Fr.setCell (Fr.setCell (Fr.setCell (hfA.then hf) (.inl hgg) _) (.inl hgg) _) (.inl hgg) _
      generalize ((w1.setCell ⟨gv', 0, none⟩ (.pointer none)).setCell ⟨gv', 1, none⟩ (.pointer (some ⟨g, 0, none⟩))).setCell ⟨gv', 2, none⟩ (.pointer (some ⟨r, 0, none⟩)) = wz at hV2 hst hst2 ⊢
      have CZ := hV2.cells
      have c0 := CZ 0
      have c1 := CZ 1
      have c2 := CZ 2
      simp at c0 c1 c2
      clear CV FV CZ hV2
      refine bodyPost_ret (v := .agg #[.pointer none, .pointer (some ⟨g, 0, none⟩), .pointer (some ⟨r, 0, none⟩)]) (by simp [results, Try.results37, go_sem, c0, c1, c2]) rfl ⟨g, r, _, _, rfl, .inl ⟨rfl, rfl⟩, (fun h => by first | rfl | cases h), hXo.move hst (fun i hi => by rw [hi]; exact hgne), ⟨rfl, hXo.2.1, _, _, _, _, hst.keep hR1 hne, fun _ => rfl, fun _ => ⟨rfl, rfl, by show (0 : Nat) ≤ 2; omega, (fun h => by cases h), (fun h => by cases h)⟩⟩, by have := hfA.size; simp only [New] at hgw; omega, by have := HR.out; omega, hst2⟩
  | false =>
    cases head with
    | true =>
      rw [show jobM false true at' i = ⟨false, at', 0, 0, 0, 0, 0⟩ from by simp [jobM]]
      go_enter Try.func37, Try.ntmps37
      go_wp2_with fail
      generalize hwA : World.alloc (World.alloc (World.alloc (World.alloc w _) _) _) _ = wA
      have hfA : Fr No w wA := by rw [← hwA]; (repeat (first | exact Fr.refl _ _ | refine Fr.setCell ?_ (.inl (by first | (simp; done) | (simp; omega) | omega)) _ | refine Fr.alloc ?_ _ | refine Fr.drew ?_ | refine Fr.drewN ?_ _ | refine Fr.thenNo ?_ (by assumption)))
      have hV : Blk wA (w.heap.size + 1 + 1) #[.pointer none, .pointer none, .pointer none] 62 := by rw [← hwA]; exact (blk_at _ (by simp)).alloc _
      have hR : Blk wA (w.heap.size + 1 + 1 + 1) (rcells n s h t at' false 0 0 0 0 0) 119 := by rw [← hwA]; exact blk_at _ (by simp)
      clear hwA
      obtain ⟨gv', hgv'⟩ : ∃ gv', gv' = w.heap.size + 1 + 1 := ⟨_, rfl⟩
      obtain ⟨r, hr⟩ : ∃ r, r = w.heap.size + 1 + 1 + 1 := ⟨_, rfl⟩
      rw [← hgv'] at hV
      rw [← hr] at hR
      have HG := Lib.hid hgv'
      have HR := Lib.hid hr
      refine (NewTake_ _ n s h t at').mono ?_
      rintro e w1 ⟨g, rfl, hX, hf⟩
      have hV1 := hf.keepNo hV
      have hR1 := hf.keepNo hR
      have CV := hV1.cells
      have FV := hV1.free
      have lV := hV1.lt
      have hXo := hX.only rfl
      have hgw := hX.1
      have hne : r ≠ gv' := by omega
      have hgne : g ≠ gv' := by have := hV.lt; simp only [New] at hgw; omega
      rw [← hr, ← hgv']
      clear hgv' hr hX hV hR
      go_wp2_with fail
      have hV2 := ((hV1.set 0 (.pointer (some ⟨g, 0, none⟩))).set 1 (.pointer none)).set 2 (.pointer (some ⟨r, 0, none⟩))
      have hst : Fr (fun i => i = gv') w1 (((w1.setCell ⟨gv', 0, none⟩ (.pointer (some ⟨g, 0, none⟩))).setCell ⟨gv', 1, none⟩ (.pointer none)).setCell ⟨gv', 2, none⟩ (.pointer (some ⟨r, 0, none⟩))) := Fr.setCell (Fr.setCell (Fr.setCell (Fr.refl (fun i => i = gv') w1) (.inr (by rfl)) _) (.inr (by rfl)) _) (.inr (by rfl)) _
      have hgg : w.heap.size ≤ gv' := by have := HG.out; omega
      have hst2 : Fr No w (((w1.setCell ⟨gv', 0, none⟩ (.pointer (some ⟨g, 0, none⟩))).setCell ⟨gv', 1, none⟩ (.pointer none)).setCell ⟨gv', 2, none⟩ (.pointer (some ⟨r, 0, none⟩))) := Fr.setCell (Fr.setCell (Fr.setCell (hfA.then hf) (.inl hgg) _) (.inl hgg) _) (.inl hgg) _
      generalize ((w1.setCell ⟨gv', 0, none⟩ (.pointer (some ⟨g, 0, none⟩))).setCell ⟨gv', 1, none⟩ (.pointer none)).setCell ⟨gv', 2, none⟩ (.pointer (some ⟨r, 0, none⟩)) = wz at hV2 hst hst2 ⊢
      have CZ := hV2.cells
      have c0 := CZ 0
      have c1 := CZ 1
      have c2 := CZ 2
      simp at c0 c1 c2
      clear CV FV CZ hV2
      refine bodyPost_ret (v := .agg #[.pointer (some ⟨g, 0, none⟩), .pointer none, .pointer (some ⟨r, 0, none⟩)]) (by simp [results, Try.results37, go_sem, c0, c1, c2]) rfl ⟨g, r, _, _, rfl, .inr ⟨rfl, rfl, rfl⟩, (fun h => by first | rfl | cases h), hXo.move hst (fun i hi => by rw [hi]; exact hgne), ⟨rfl, hXo.2.1, _, _, _, _, hst.keep hR1 hne, fun _ => rfl, fun _ => ⟨rfl, rfl, by show (0 : Nat) ≤ 2; omega, (fun h => by cases h), (fun h => by cases h)⟩⟩, by have := hfA.size; simp only [New] at hgw; omega, by have := HR.out; omega, hst2⟩
    | false =>
      rw [show jobM false false at' i = ⟨false, 1, 0, 0, 0, 0, 0⟩ from by simp [jobM]]
      go_enter Try.func37, Try.ntmps37
      go_wp2_with fail
      generalize hwA : World.alloc (World.alloc (World.alloc (World.alloc w _) _) _) _ = wA
      have hfA : Fr No w wA := by rw [← hwA]; (repeat (first | exact Fr.refl _ _ | refine Fr.setCell ?_ (.inl (by first | (simp; done) | (simp; omega) | omega)) _ | refine Fr.alloc ?_ _ | refine Fr.drew ?_ | refine Fr.drewN ?_ _ | refine Fr.thenNo ?_ (by assumption)))
      have hV : Blk wA (w.heap.size + 1 + 1) #[.pointer none, .pointer none, .pointer none] 62 := by rw [← hwA]; exact (blk_at _ (by simp)).alloc _
      have hR : Blk wA (w.heap.size + 1 + 1 + 1) (rcells n s h t 1 false 0 0 0 0 0) 119 := by rw [← hwA]; exact blk_at _ (by simp)
      clear hwA
      obtain ⟨gv', hgv'⟩ : ∃ gv', gv' = w.heap.size + 1 + 1 := ⟨_, rfl⟩
      obtain ⟨r, hr⟩ : ∃ r, r = w.heap.size + 1 + 1 + 1 := ⟨_, rfl⟩
      rw [← hgv'] at hV
      rw [← hr] at hR
      have HG := Lib.hid hgv'
      have HR := Lib.hid hr
      refine (NewTake_ _ n s h t 1).mono ?_
      rintro e w1 ⟨g, rfl, hX, hf⟩
      have hV1 := hf.keepNo hV
      have hR1 := hf.keepNo hR
      have CV := hV1.cells
      have FV := hV1.free
      have lV := hV1.lt
      have hXo := hX.only rfl
      have hgw := hX.1
      have hne : r ≠ gv' := by omega
      have hgne : g ≠ gv' := by have := hV.lt; simp only [New] at hgw; omega
      rw [← hr, ← hgv']
      clear hgv' hr hX hV hR
      go_wp2_with fail
      have hV2 := ((hV1.set 0 (.pointer (some ⟨g, 0, none⟩))).set 1 (.pointer none)).set 2 (.pointer (some ⟨r, 0, none⟩))
      have hst : Fr (fun i => i = gv') w1 (((w1.setCell ⟨gv', 0, none⟩ (.pointer (some ⟨g, 0, none⟩))).setCell ⟨gv', 1, none⟩ (.pointer none)).setCell ⟨gv', 2, none⟩ (.pointer (some ⟨r, 0, none⟩))) := Fr.setCell (Fr.setCell (Fr.setCell (Fr.refl (fun i => i = gv') w1) (.inr (by rfl)) _) (.inr (by rfl)) _) (.inr (by rfl)) _
      have hgg : w.heap.size ≤ gv' := by have := HG.out; omega
      have hst2 : Fr No w (((w1.setCell ⟨gv', 0, none⟩ (.pointer (some ⟨g, 0, none⟩))).setCell ⟨gv', 1, none⟩ (.pointer none)).setCell ⟨gv', 2, none⟩ (.pointer (some ⟨r, 0, none⟩))) := Fr.setCell (Fr.setCell (Fr.setCell (hfA.then hf) (.inl hgg) _) (.inl hgg) _) (.inl hgg) _
      generalize ((w1.setCell ⟨gv', 0, none⟩ (.pointer (some ⟨g, 0, none⟩))).setCell ⟨gv', 1, none⟩ (.pointer none)).setCell ⟨gv', 2, none⟩ (.pointer (some ⟨r, 0, none⟩)) = wz at hV2 hst hst2 ⊢
      have CZ := hV2.cells
      have c0 := CZ 0
      have c1 := CZ 1
      have c2 := CZ 2
      simp at c0 c1 c2
      clear CV FV CZ hV2
      refine bodyPost_ret (v := .agg #[.pointer (some ⟨g, 0, none⟩), .pointer none, .pointer (some ⟨r, 0, none⟩)]) (by simp [results, Try.results37, go_sem, c0, c1, c2]) rfl ⟨g, r, _, _, rfl, .inr ⟨rfl, rfl, rfl⟩, (fun h => by first | rfl | cases h), hXo.move hst (fun i hi => by rw [hi]; exact hgne), ⟨rfl, hXo.2.1, _, _, _, _, hst.keep hR1 hne, fun _ => rfl, fun _ => ⟨rfl, rfl, by show (0 : Nat) ≤ 2; omega, (fun h => by cases h), (fun h => by cases h)⟩⟩, by have := hfA.size; simp only [New] at hgw; omega, by have := HR.out; omega, hst2⟩
end Go.Proofs.Ytfglpigoljclbaa.H
