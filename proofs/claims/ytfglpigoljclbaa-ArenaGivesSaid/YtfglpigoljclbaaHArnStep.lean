/- arena: Take.Step, Give.Step. -/
import Derived.Test.YtfglpigoljclbaaHArnNew
import Derived.Deep.RegionLaw
set_option linter.unusedVariables false
set_option linter.unusedSimpArgs false
namespace Go.Proofs.Ytfglpigoljclbaa.H
open Go.RowKit
attribute [local go_sem ↓] Go.wp_at_zero Go.wp_at_succ
variable {w w' a b wr : World} {S T : Nat → Prop} {g gm gB gr k c c' kM kX kI j D : Nat} {ws ws' : List Int} {m m' : Mch} {n s h t : Int} {L L' : Nat → Nat}

/-- One that goes on by a try. -/
theorem atake_go (w : World) (A : Arn) (H : ArnAt w L kX kI g n s h t A) (h1 : kX ≠ kI) (h2 : kM ≠ kX) (h3 : kM ≠ kI) (hM : MemAt w (Lab L w kM) gm ws c) (hn : c ≤ 1000000) (hw : Words ws) (hgv : A.give = false) (hno : ¬ (0 < A.shelf.length ∧ A.st = 0)) :
    Calls Try.prog 83 #[.pointer (some ⟨g, 0, none⟩), .pointer (some ⟨gm, 0, none⟩)] w (ArnPost L w kM kX kI g gm n s h t (astep n s h A ws c)) := by
  have e : astep n s h A ws c = ago n s h A ws c := by rw [astep, if_neg (by rw [hgv]; decide), if_neg hno]
  rw [e]
  have K := Lib.hid (goOn_ w A H h1 h2 h3 hM hn hw)
  obtain ⟨hgL, hok, vs, vf, vn, hB, hS, hF, hN, hap⟩ := H
  obtain ⟨A1, c1, rfl, _, _⟩ := hS.slice
  have C1 := (hB.cells 1).trans (trc_1 _ _ _ _ _ _ _)
  have C4 := (hB.cells 4).trans (trc_4 _ _ _ _ _ _ _)
  obtain ⟨N, hN'⟩ : ∃ N, N = A.shelf.length := ⟨_, rfl⟩
  obtain ⟨st, hst⟩ : ∃ st, st = A.st := ⟨_, rfl⟩
  have hm := hS.slice
  rw [← hN'] at C1 hno
  rw [← hst] at C4 hno
  have hNb : N ≤ 9223372036854775807 := by
    obtain ⟨_, _, hv, h5, h6⟩ := hm
    cases hv
    unfold maxLen at h6
    omega
  clear hok hF hN hB hS hN' hst hm e
  go_enter Try.func83, Try.ntmps83
  by_cases h0 : N = 0
  · subst h0
    go_wp2_with fail
    refine K.out.mono ?_
    rintro e w1 ⟨rfl, hp⟩
    go_wp2_with fail
    go_ret2
    exact ⟨rfl, hp⟩
  · have hst : (st == 0) = false := by
      have : ¬ st = 0 := fun h => hno ⟨by omega, h⟩
      simpa using this
    have hp1 : (1 : Int) ≤ N := by omega
    clear hno h0
    go_wp2_with fail
    refine K.out.mono ?_
    rintro e w1 ⟨rfl, hp⟩
    go_wp2_with fail
    go_ret2
    exact ⟨rfl, hp⟩

set_option maxHeartbeats 4000000 in
theorem atake_pop (w : World) (A : Arn) (H : ArnAt w L kX kI g n s h t A) (h1 : kX ≠ kI) (h2 : kM ≠ kX) (h3 : kM ≠ kI) (hM : MemAt w (Lab L w kM) gm ws c) (hgv : A.give = false) (hp : 0 < A.shelf.length) (hst0 : A.st = 0) (hl : A.shelf.length ≤ 1000000) :
    Calls Try.prog 83 #[.pointer (some ⟨g, 0, none⟩), .pointer (some ⟨gm, 0, none⟩)] w (ArnPost L w kM kX kI g gm n s h t (astep n s h A ws c)) := by
  have e : astep n s h A ws c = ({ A with shelf := A.shelf.take (A.shelf.length - 1), st := 1, i := A.shelf.getD (A.shelf.length - 1) 0 }, ws, c) := by rw [astep, if_neg (by rw [hgv]; decide), if_pos ⟨hp, hst0⟩]
  rw [e]
  obtain ⟨hgL, ⟨a0, a1, a2, a3, a4, a5, a6, a7⟩, vs, vf, vn, hB, hS, hF, hN, hap⟩ := H
  obtain ⟨gs, cs, rfl, _, _, hcs, hcell, _⟩ := hS.form hp
  have C1 := (hB.cells 1).trans (trc_1 _ _ _ _ _ _ _)
  have C4 := (hB.cells 4).trans (trc_4 _ _ _ _ _ _ _)
  rw [hst0] at C4
  have FB := hB.free
  obtain ⟨x, hx⟩ : ∃ x, x = A.shelf.getD (A.shelf.length - 1) 0 := ⟨_, rfl⟩
  have hx0 := a7 (A.shelf.length - 1)
  have ck := own_node hS (by omega : A.shelf.length - 1 < A.shelf.length) rfl
  rw [← hx] at ck hx0
  have hT := hS.take (m := A.shelf.length - 1) (by omega)
  rw [Nat.mul_one, us_take] at hT
  obtain ⟨s1, s2, s3⟩ := arn_store hB hgL h1 hT hF hN 1 (.slice (some ⟨gs, 0, none⟩) (A.shelf.length - 1) cs)
  have hB1 := hB.set 1 (.slice (some ⟨gs, 0, none⟩) (A.shelf.length - 1) cs)
  rw [trc_s1] at hB1
  have hlen : (A.shelf.take (A.shelf.length - 1)).length = A.shelf.length - 1 := by rw [List.length_take]; omega
  have hA1 : ArnAt (w.setCell ⟨g, 1, none⟩ (.slice (some ⟨gs, 0, none⟩) (A.shelf.length - 1) cs)) L kX kI g n s h t { A with shelf := A.shelf.take (A.shelf.length - 1) } :=
    ⟨hgL, ⟨a0, a1, a2, a3, a4, a5, a6, fun j => by
      show 0 ≤ (A.shelf.take (A.shelf.length - 1)).getD j 0 ∧ (A.shelf.take (A.shelf.length - 1)).getD j 0 < 4294967296
      rw [List.getD_eq_getElem?_getD, List.getElem?_take]
      split
      · rw [← List.getD_eq_getElem?_getD]; exact a7 j
      · simp⟩, _, _, _, hB1, by show Own _ _ _ _ _ (A.shelf.take (A.shelf.length - 1)).length _; rw [hlen]; exact s1, s2, s3, hap⟩
  have K := Lib.hid (ends8_ _ _ 1 x hA1 h1 (by decide) hx0.1 hx0.2)
  have hM1 := Lib.hid (hM.setX hgL (Ne.symm h2) 1 (.slice (some ⟨gs, 0, none⟩) (A.shelf.length - 1) cs))
  have hf1 : Fr (fun j => j = g) w (w.setCell ⟨g, 1, none⟩ (.slice (some ⟨gs, 0, none⟩) (A.shelf.length - 1) cs)) := Fr.setCell (Fr.refl (fun j => j = g) w) (.inr (by rfl)) _
  have HF1 := Lib.hid hf1
  obtain ⟨N, hN'⟩ : ∃ N, N + 1 = A.shelf.length := ⟨A.shelf.length - 1, by omega⟩
  rw [← hN'] at C1 ck K
  have e1 : N + 1 - 1 = N := by omega
  rw [e1] at ck K
  have HX := Lib.hid hx
  have HN' := Lib.hid hN'
  have hn1 : N ≤ 1000000 := by omega
  have hn2 : N + 1 ≤ cs := by omega
  clear hA1 s1 s2 s3 hB1 hT hB hS hF hN hM hx hN' e1 hlen hf1 hcell hp hcs hl e
  go_enter Try.func83, Try.ntmps83
  go_wp2_with fail
  refine K.out.mono ?_
  rintro e w1 ⟨rfl, hA2, hf2⟩
  go_wp2_with fail
  go_ret2
  have e1 : A.shelf.length - 1 = N := by have := HN'.out; omega
  rw [e1]
  have hx2 := HX.out
  rw [e1] at hx2
  rw [← hx2]
  have hM2 := hM1.out
  have hf1 := HF1.out
  rw [e1] at hM2 hf1
  have hg2 : ∀ {u v : World}, Fr (fun j => j = g) u v → FrL L (fun k => k = kX) u v := fun hf => Fr.mono hf (fun i _ e => by rw [e]; exact hgL)
  exact ⟨rfl, L, Ext.refl _ _, hA2, hM2.lab (hg2 hf2) (Ext.refl _ _) h2, ((hg2 hf1).then (hg2 hf2) (Ext.refl _ _)).mono (fun i hi => .inr (.inl hi))⟩

theorem AStepTake (w : World) (A : Arn) (H : ArnAt w L kX kI g n s h t A) (h1 : kX ≠ kI) (h2 : kM ≠ kX) (h3 : kM ≠ kI) (hM : MemAt w (Lab L w kM) gm ws c) (hn : c ≤ 1000000) (hw : Words ws) (hgv : A.give = false) (hl : A.shelf.length ≤ 1000000) :
    Calls Try.prog 83 #[.pointer (some ⟨g, 0, none⟩), .pointer (some ⟨gm, 0, none⟩)] w (ArnPost L w kM kX kI g gm n s h t (astep n s h A ws c)) := by
  by_cases hp : 0 < A.shelf.length ∧ A.st = 0
  · exact atake_pop w A H h1 h2 h3 hM hgv hp.1 hp.2 hl
  · exact atake_go w A H h1 h2 h3 hM hn hw hgv hp

theorem ago_keeps (n s h : Int) (A : Arn) (ws : List Int) (c : Nat) : (ago n s h A ws c).1.give = A.give ∧ (ago n s h A ws c).1.node = A.node ∧ (ago n s h A ws c).1.shelf = A.shelf := by
  unfold ago
  simp only
  split
  · split <;> exact ⟨rfl, rfl, rfl⟩
  · exact ⟨rfl, rfl, rfl⟩

theorem trc_some (l vs vf vn st i x : Value) : trc l vs vf vn st i (some x) = #[l, vs, vf, vn, st, i, x] := rfl

/-- A node more lies on the shelf. -/
theorem arn_more {w1 w6 : World} {A : Arn} {vs vf vn : Value} {g' cap' : Nat} {x : Int} {L1 : Nat → Nat} (hgL : L1 g = kX) (h1 : kX ≠ kI) (h2 : kM ≠ kX) (hok : A.ok) (x0 : 0 ≤ x) (x1 : x < 4294967296) (hB : Blk w1 g (trc (.int .i64 A.left) vs vf vn (.int .i64 A.st) (.int .u32 A.i) (arnEx A)) (arnTy A.give))
    (hS : Own w1 (Lab L1 w1 kX) 23 1 vs A.shelf.length (us .u32 A.shelf)) (hF : FreshFn w1 (Lab L1 w1 kX) n s h t A vf) (hN : NowAt w1 (Lab L1 w1 kI) n s h t A.give vn A.now) (hap : Apart vs vf) (hM : MemAt w1 (Lab L1 w1 kM) gm ws c)
    (hO6 : Own w6 (Gr (Lab L1 w1 kX) w1) 23 1 (.slice (some ⟨g', 0, none⟩) (A.shelf.length + 1) cap') (A.shelf.length + 1) (us .u32 A.shelf ++ [.int .u32 x])) (hf6 : Fr (Row vs) w1 w6) (hr6 : vs.ownBlock = some g' ∨ w1.heap.size ≤ g') :
    ∃ L2, Ext L1 L2 w1 ∧ ArnAt (w6.setCell ⟨g, 1, none⟩ (.slice (some ⟨g', 0, none⟩) (A.shelf.length + 1) cap')) L2 kX kI g n s h t { A with shelf := A.shelf ++ [x] } ∧
      MemAt (w6.setCell ⟨g, 1, none⟩ (.slice (some ⟨g', 0, none⟩) (A.shelf.length + 1) cap')) (Lab L2 (w6.setCell ⟨g, 1, none⟩ (.slice (some ⟨g', 0, none⟩) (A.shelf.length + 1) cap')) kM) gm ws c ∧ FrL L1 (fun k => k = kX) w1 (w6.setCell ⟨g, 1, none⟩ (.slice (some ⟨g', 0, none⟩) (A.shelf.length + 1) cap')) := by
  have hfL : FrL L1 (fun k => k = kX) w1 w6 := Fr.mono hf6 fun i _ hi => (hS.2 i hi).1
  have hE := ext_re L1 w1 kX
  have hgL2 : re L1 w1 kX g = kX := (hE g hB.lt).trans hgL
  have hB6 := hf6.keep hB (hS.ne hB (Ne.symm (arnTy_ne A.give).1))
  have hs := hf6.size
  have hS6 : Own w6 (Lab (re L1 w1 kX) w6 kX) 23 1 (.slice (some ⟨g', 0, none⟩) (A.shelf.length + 1) cap') (A.shelf.length + 1) (us .u32 A.shelf ++ [.int .u32 x]) := hO6.wide fun i hi hl => by
    rcases hi with hi | hi
    · exact ⟨(hE i hi.2).trans hi.1, hl⟩
    · exact ⟨by rw [re, if_neg (by omega)], hl⟩
  have hF6 : FreshFn w6 (Lab (re L1 w1 kX) w6 kX) n s h t A vf := by
    rcases hF with ⟨h0, bc, h3, h4, h5⟩ | ⟨h0, bc, bi, h3, h4, h5, h6, h7⟩
    · exact .inl ⟨h0, bc, h3, hf6.keep h4 (hS.ne h4 (by decide)), lab_ext hE hs h5⟩
    · exact .inr ⟨h0, bc, bi, h3, hf6.keep h4 (hS.ne h4 (by decide)), lab_ext hE hs h5, hf6.keep h6 (hap _ _ _ h3), lab_ext hE hs h7⟩
  have hN6 := hN.lab hfL hE (Ne.symm h1)
  have hap6 : Apart (.slice (some ⟨g', 0, none⟩) (A.shelf.length + 1) cap') vf := fun f bc bi hv hk => by
    rcases hr6 with hr | hr
    · exact hap f bc bi hv (hr.trans hk)
    · rcases hF with ⟨_, bc', h3, _⟩ | ⟨_, bc', bi', h3, _, _, h6, _⟩
      · rw [hv] at h3; simp at h3
      · rw [hv] at h3
        simp at h3
        obtain ⟨_, _, rfl⟩ := h3
        have := h6.lt
        simp [Value.ownBlock] at hk
        omega
  obtain ⟨s1, s2, s3⟩ := arn_store hB6 hgL2 h1 hS6 hF6 hN6 1 (.slice (some ⟨g', 0, none⟩) (A.shelf.length + 1) cap')
  have hB7 := hB6.set 1 (.slice (some ⟨g', 0, none⟩) (A.shelf.length + 1) cap')
  rw [trc_s1] at hB7
  have hM6 : MemAt w6 (Lab (re L1 w1 kX) w6 kM) gm ws c := hM.lab hfL hE h2
  obtain ⟨a0, a1, a2, a3, a4, a5, a6, a7⟩ := hok
  refine ⟨re L1 w1 kX, hE, ⟨hgL2, ⟨a0, a1, a2, a3, a4, a5, a6, fun j => ?_⟩, _, _, _, hB7, ?_, s2, s3, hap6⟩, hM6.setX hgL2 (Ne.symm h2) 1 _, Fr.setCell hfL (.inr hgL) _⟩
  · show 0 ≤ (A.shelf ++ [x]).getD j 0 ∧ (A.shelf ++ [x]).getD j 0 < 4294967296
    rw [List.getD_eq_getElem?_getD, List.getElem?_append]
    split
    · rw [← List.getD_eq_getElem?_getD]; exact a7 j
    · by_cases e : j - A.shelf.length = 0
      · rw [e]; exact ⟨x0, x1⟩
      · rw [List.getElem?_eq_none (by simp; omega)]; simp
  · show Own _ _ _ _ _ (A.shelf ++ [x]).length (us .u32 (A.shelf ++ [x]))
    rw [us_append, List.length_append]
    exact s1

/-- A give's end, when its tries are over. -/
def aret (nd : Int) (r : Arn × List Int × Nat) : Arn × List Int × Nat := if r.1.st = 6 then ({ r.1 with shelf := r.1.shelf ++ [nd], st := 1, i := nd }, r.2.1, r.2.2) else r

set_option maxHeartbeats 4000000 in
theorem AStepGive (w : World) (A : Arn) (H : ArnAt w L kX kI g n s h t A) (h1 : kX ≠ kI) (h2 : kM ≠ kX) (h3 : kM ≠ kI) (hM : MemAt w (Lab L w kM) gm ws c) (hn : c ≤ 1000000) (hw : Words ws) (hgv : A.give = true) (hl : A.shelf.length ≤ 1000000) :
    Calls Try.prog 86 #[.pointer (some ⟨g, 0, none⟩), .pointer (some ⟨gm, 0, none⟩)] w (ArnPost L w kM kX kI g gm n s h t (astep n s h A ws c)) := by
  obtain ⟨r, hr⟩ : ∃ r, r = ago n s h A ws c := ⟨_, rfl⟩
  have hk := ago_keeps n s h A ws c
  have e : astep n s h A ws c = aret A.node r := by rw [astep, if_pos hgv, hr]; rfl
  rw [e]
  rw [← hr] at hk
  have K0 := goOn_ w A H h1 h2 h3 hM hn hw
  rw [← hr] at K0
  have K := Lib.hid K0
  have hgL := H.1
  have hg := H.2.2
  have hlt : g < w.heap.size := by obtain ⟨vs, vf, vn, hB, _⟩ := hg; exact hB.lt
  have HK := Lib.hid hk
  clear H hM e hr hk K0 hg
  obtain ⟨⟨gv', lf', sh', now', st', i', nd'⟩, ws', c'⟩ := r
  go_enter Try.func86, Try.ntmps86
  go_wp2_with fail
  refine K.out.mono ?_
  rintro e w1 ⟨rfl, L1, hE1, hA1, hM1, hf1⟩
  by_cases h6 : ¬ st' = 6
  · have h7 : (st' == 6) = false := by simpa using h6
    have H6 := Lib.hid h6
    clear h6
    go_wp2_with fail
    go_ret2
    rw [aret, if_neg H6.out]
    exact ⟨rfl, L1, hE1, hA1, hM1, hf1⟩
  have h6 : st' = 6 := Decidable.not_not.1 h6
  subst h6
  obtain ⟨hgL1, ⟨a0, a1, a2, a3, a4, a5, a6, a7⟩, vs, vf, vn, hB, hS, hF, hN, hap⟩ := hA1
  have hg1 : gv' = true := HK.out.1.trans hgv
  subst hg1
  have hB' : Blk w1 g #[.int .i64 lf', vs, vf, vn, .int .i64 6, .int .u32 i', .int .u32 nd'] (arnTy true) := hB
  obtain ⟨A1, c1, rfl, _, _⟩ := hS.slice
  have C1 := (hB.cells 1).trans (trc_1 _ _ _ _ _ _ _)
  have C6 : w1.cell? ⟨g, 6, none⟩ = some (.int .u32 nd') := (hB'.cells 6).trans rfl
  have FB := hB.free
  have l1 := hB.lt
  simp only at C1 a3 a4 a7 hS
  have hsl : sh' = A.shelf := HK.out.2.2
  have hsl2 : sh'.length ≤ 1000000 := by rw [hsl]; exact hl
  have HSL := Lib.hid hsl
  have HND := Lib.hid HK.out.2.1
  clear hsl
  go_wp2_with fail
  have hm1 := hM1
  go_cut [] (fun wx => ∃ g' cap' w6, Own w6 (Gr (Lab L1 w1 kX) w1) 23 1 (.slice (some ⟨g', 0, none⟩) (sh'.length + 1) cap') (sh'.length + 1) (us .u32 sh' ++ [.int .u32 nd']) ∧ Fr (Row (.slice A1 sh'.length c1)) w1 w6 ∧ (Value.ownBlock (.slice A1 sh'.length c1) = some g' ∨ w1.heap.size ≤ g') ∧ wx = w6.setCell ⟨g, 1, none⟩ (.slice (some ⟨g', 0, none⟩) (sh'.length + 1) cap'))
  case first =>
    go_region_law ((refine step_append_1 (w := w1.drew) rfl _ _ 41 23 (.int .u32 0) 4 rfl Try.underlying41 info23 rfl (by decide) (by decide) hS.drew rfl #[.int .u32 nd'] _ rfl rfl rfl (by intro u hu; simp at hu; subst hu; rfl) (by omega) ?_; intro g' cap' w6 hO6 hf6 hr6; have hB6 := hf6.keep hB.drew (hS.ne hB (Ne.symm (arnTy_ne true).1)); have F6 := hB6.free; have D1 := (hB6.cells 1).trans (trc_1 _ _ _ _ _ _ _); have l6 := hB6.lt))
    all_goals
      go_wp2_with fail
      go_meet
      exact ⟨g', cap', w6, hO6, ((Fr.refl No w1).drew).ofNo.then hf6, hr6, rfl⟩
  case rest =>
    obtain ⟨g', cap', w6, hO6, hf6, hr6, rfl⟩ := hcut
    obtain ⟨L2, hE2, hA2, hM2, hfr2⟩ := arn_more (A := ⟨true, lf', sh', now', 6, i', nd'⟩) hgL1 h1 h2 ⟨a0, a1, a2, a3, a4, a5, a6, a7⟩ a3 a4 hB hS hF hN hap hM1 hO6 hf6 hr6
    generalize w6.setCell ⟨g, 1, none⟩ (.slice (some ⟨g', 0, none⟩) (sh'.length + 1) cap') = wz at hA2 hM2 hfr2 ⊢
    have K2 := Lib.hid (fun w' hf => ends8_ w' _ 1 nd' (hA2.no hf) h1 (by decide) a3 a4)
    have D6 : wz.cell? ⟨g, 6, none⟩ = some (.int .u32 nd') := by
      obtain ⟨_, _, vs2, vf2, vn2, hB2, _⟩ := hA2
      exact (hB2.cells 6).trans rfl
    have lz : g < wz.heap.size := by
      obtain ⟨_, _, vs2, vf2, vn2, hB2, _⟩ := hA2
      exact hB2.lt
    have hg2 : L2 g = kX := hA2.1
    clear hB hS hF hN hap hO6 hf6 hr6 C1 C6 FB l1 hB' a7 hA2
    go_wp2_with fail
    go_region_held3 (fun w' => w'.cell? ⟨g, 6, none⟩ = some (.int .u32 nd')) (first | (first | (go_keep; done) | (go_split_ands; (repeat' apply And.intro) <;> first | assumption | (refine (Fr.cell (S := No) (by assumption) (by first | (simp; done) | (simp; omega) | omega) id).trans ?_; first | assumption | (simp; done) | (simp; assumption)) | (refine (Fr.frozen (S := No) (by assumption) (by first | (simp; done) | (simp; omega) | omega) id).trans ?_; first | assumption | (simp; done) | (simp; assumption)))) | assumption)
      ((go_at_call 100; refine (K2.out _ ((Fr.refl No wz).drew)).mono ?_; rintro e w8 ⟨rfl, hA8, hf8⟩; have D8 : w8.cell? ⟨g, 6, none⟩ = some (.int .u32 nd') := by { obtain ⟨_, _, vs2, vf2, vn2, hB2, _⟩ := hA8; exact (hB2.cells 6).trans rfl }))
    go_wp2_with fail
    go_ret2
    rw [aret, if_pos rfl]
    have hgg : ∀ {u v : World}, Fr (fun j => j = g) u v → FrL L2 (fun k => k = kX) u v := fun hf => Fr.mono hf (fun i _ e => by rw [e]; exact hg2)
    have hE3 : Ext L L2 w := hE1.trans hE2 hf1.size
    refine ⟨by rw [HND.out]; rfl, L2, hE3, by rw [← HND.out]; exact hA8, (hM2.no ((Fr.refl No wz).drew)).lab (hgg hf8) (Ext.refl _ _) h2, ?_⟩
    exact (hf1.then (hfr2.mono (fun i hi => .inr (.inl hi))) hE1).then ((FrL.ofNo (S := fun k => k = kM ∨ k = kX ∨ k = kI) ((Fr.refl No wz).drew)).then ((hgg hf8).mono (fun i hi => .inr (.inl hi))) (Ext.refl _ _)) hE3
end Go.Proofs.Ytfglpigoljclbaa.H
