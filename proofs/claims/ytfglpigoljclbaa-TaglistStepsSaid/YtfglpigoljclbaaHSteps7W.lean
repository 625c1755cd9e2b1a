/- Law 7's TaglistSteps: what each step tells, and does to any memory, is as the chapter says. -/
import Derived.Test.YtfglpigoljclbaaHStepsS
import Derived.Deep.DrawnRows
set_option linter.unusedVariables false
set_option linter.unusedSimpArgs false
namespace Go.Proofs.Ytfglpigoljclbaa.H
open Go.RowKit
attribute [local go_sem ↓] Go.wp_at_zero Go.wp_at_succ

theorem mgo_len (n s h : Int) (m : Mch) (ws : List Int) (k : Nat) : (mgo n s h m ws k).2.1.length = ws.length := by
  unfold mgo mstep
  simp only
  repeat' split
  all_goals first | rfl | exact stW_len _ _ _ | exact swW_len _ _ _ _

/-- A job: Give, Head, At, I. -/
abbrev JobT := Bool × Bool × Int × Int

/-- A slice of jobs. -/
def RdJobs (w : World) (v : Value) (js : List JobT) : Prop :=
  ∃ A c, v = .slice A js.length c ∧ js.length ≤ c ∧ c ≤ maxLen ∧ (0 < js.length → ∃ g o, A = some ⟨g, o, none⟩ ∧ ∀ (j : Nat) (q : JobT), js[j]? = some q →
    w.cell? ⟨g, o + j * 4, none⟩ = some (.bool q.1) ∧ w.cell? ⟨g, o + j * 4 + 1, none⟩ = some (.bool q.2.1) ∧ w.cell? ⟨g, o + j * 4 + 2, none⟩ = some (.int .i64 q.2.2.1) ∧ w.cell? ⟨g, o + j * 4 + 3, none⟩ = some (.int .i64 q.2.2.2))

theorem pair_ptr {m : Mch} {g : Nat} {vt vg : Value} (h : PairOf m g vt vg) (h2 : m.give = true → vt = .pointer none) : ∃ pt pg, vt = .pointer pt ∧ vg = .pointer pg := by
  rcases h with ⟨h, rfl⟩ | ⟨h, rfl, rfl⟩
  · exact ⟨_, _, h2 h, rfl⟩
  · exact ⟨_, _, rfl, rfl⟩

theorem RchAt.move {a b : World} {S T : Nat → Prop} {g : Nat} {n s h t : Int} {m : Mch} (H : RchAt a S g n s h t m) (hf : Fr T a b) (hd : ∀ i, S i → ¬ T i) : RchAt b S g n s h t m := by
  obtain ⟨h1, h2, i, pc, wv, nx, h3, h4⟩ := H
  exact ⟨h1, h2, i, pc, wv, nx, hf.keep h3 (hd _ h1), h4⟩

/-- Ahead of a job. -/
def JobsInv (w wr : World) (gB gm gr : Nat) (n s h t : Int) (ws : List Int) (v14 : Value) (J : Nat) : Prop :=
  ∃ L ps ms, StepsSt w wr L gB gm gr n s h t v14 J ps ms ws 0

/-- Ahead of a turn. -/
def TurnsInv (w wr : World) (gB gm gr : Nat) (n s h t : Int) (v14 : Value) (J i : Nat) : Prop :=
  ∃ L ps ms ws c, StepsSt w wr L gB gm gr n s h t v14 J ps ms ws c ∧ c ≤ i ∧ ws.length ≤ 1024

set_option maxRecDepth 100000 in
set_option maxHeartbeats 8000000 in
theorem TaglistSteps_ (w : World) (S S' : Nat → Prop) (n s h t : Int) (vw : Value) (W0 : List Int) (hw : Rd w S vw (us .u64 W0)) (hww : Words W0) (vj : Value) (js : List JobT) (hj : RdJobs w vj js)
    (vo : Value) (od : List Int) (ho : Rd w S' vo (us .i64 od)) (hoi : ∀ j, I64 (od.getD j 0)) :
    Calls Try.prog 5 #[cfg n s h t, vw, vj, vo] w fun e w' => e = .returned (.bool true) ∧ Fr No w w' := by
  have HO := Lib.hid ho
  have HOI := Lib.hid hoi
  have HW := Lib.hid hw
  obtain ⟨Ao, co, rfl, hco, hcom⟩ := ho.slice
  obtain ⟨Aw, cw, rfl, hcw, hcwm⟩ := hw.slice
  obtain ⟨Aj, cj, rfl, hcj, hcjm, hJ⟩ := hj
  have HJ := Lib.hid hJ
  have hol : od.length ≤ 9223372036854775807 := by unfold maxLen at hcom; omega
  have hjl : js.length ≤ 9223372036854775807 := by unfold maxLen at hcjm; omega
  have hwl : W0.length ≤ 9223372036854775807 := by unfold maxLen at hcwm; omega
  clear ho hoi hw hJ
  obtain ⟨wb, hwb⟩ : ∃ wb, wb = w.alloc (.cells #[.int .i64 n, .int .i64 s, .int .i64 h, .int .u32 t] 25) := ⟨_, rfl⟩
  have hfb : Fr No w wb := by rw [hwb]; exact (Fr.refl No w).alloc _
  have hBb : Blk wb w.heap.size #[.int .i64 n, .int .i64 s, .int .i64 h, .int .u32 t] 25 := by rw [hwb]; exact blk_new _ _ _
  obtain ⟨gB, hgB⟩ : ∃ gB, gB = w.heap.size := ⟨_, rfl⟩
  rw [← hgB] at hBb
  have HGB := Lib.hid hgB
  go_enter Try.func5, Try.ntmps5
  go_wp2_with fail
  rw [← hwb, ← hgB]
  clear hwb hgB
  refine (shown7_ _).mono ?_
  rintro e w1 ⟨rfl, hf1⟩
  have hfw1 := hfb.then hf1
  have hB1 := hf1.keepNo hBb
  clear hf1 hfb hBb
  go_wp2_with fail
  by_cases hlong : 1024 < W0.length
  · refine (New_no _ _ _ _ hlong).mono ?_
    rintro e w2 ⟨rfl, hf2⟩
    have hl2 : (1024 : Int) < W0.length := by omega
    go_wp2_with fail
    refine (RNew_no _ _ _ _ hlong).mono ?_
    rintro e w3 ⟨rfl, hf3⟩
    by_cases hj0 : js.length = 0
    · rw [hj0]
      go_wp2_with fail
      go_ret
      exact ⟨rfl, (hfw1.then hf2).then hf3⟩
    · have hj1 : ((js.length : Int) == 0) = false := beq_eq_false_iff_ne.2 (by omega)
      by_cases hj2 : (20 : Int) < js.length
      · go_wp2_with fail
        go_ret
        exact ⟨rfl, (hfw1.then hf2).then hf3⟩
      · by_cases ht2 : (200 : Int) < od.length
        · go_wp2_with fail
          go_ret
          exact ⟨rfl, (hfw1.then hf2).then hf3⟩
        · go_wp2_with fail
          go_ret
          exact ⟨rfl, (hfw1.then hf2).then hf3⟩
  · have hwl2 : W0.length ≤ 1024 := by omega
    refine (New_yes _ _ W0 (HW.out.keepNo hfw1) hwl2).mono ?_
    rintro e w2 ⟨gm, rfl, hM2, hf2⟩
    have hM2 := hM2.born (fun _ => 0) 1
    have hfw2 := hfw1.then hf2
    have hB2 := hf2.keepNo hB1
    have ho1 := (Old.zero w).ext (ext_re (fun _ => 0) w1 1) hfw1.size
    have hl1 : re (fun _ => 0) w1 1 gB = 0 := by rw [re, if_pos hB1.lt]
    obtain ⟨L1, hL1⟩ : ∃ L1, L1 = re (fun _ => 0) w1 1 := ⟨_, rfl⟩
    rw [← hL1] at hM2 ho1 hl1
    clear hL1 hf2 hB1 hfw1
    go_wp2_with fail
    refine (RNew_yes _ _ W0 (HW.out.keepNo hfw2) hwl2).mono ?_
    rintro e w3 ⟨gr, rfl, hR3, hf3⟩
    have hR3 := hR3.born L1 2
    have hfw3 := hfw2.then hf3
    have hSt : StepsSt w w3 (re L1 w2 2) gB gm gr n s h t (.slice none 0 0) 0 (fun _ => (.pointer none, .pointer none, 0)) (fun _ => ⟨false, 0, 0, 0, 0, 0, 0⟩) W0 0 :=
      ⟨hfw3, ho1.ext (ext_re _ _ _) hfw2.size, hf3.keepNo hB2, (ext_re L1 w2 2 gB hB2.lt).trans hl1, hM2.lab (S := fun _ => False) (FrL.ofNo hf3) (ext_re L1 w2 2) id, hR3, hww, Own.nil _ _ _ _, fun j hj => by omega⟩
    clear hM2 hR3 hf3 hB2 hfw2 hl1 ho1
    by_cases hj0 : js.length = 0
    · rw [hj0]
      go_wp2_with fail
      go_ret
      exact ⟨rfl, hfw3⟩
    have hj1 : ((js.length : Int) == 0) = false := beq_eq_false_iff_ne.2 (by omega)
    by_cases hj2 : (20 : Int) < js.length
    · go_wp2_with fail
      go_ret
      exact ⟨rfl, hfw3⟩
    by_cases ht2 : (200 : Int) < od.length
    · go_wp2_with fail
      go_ret
      exact ⟨rfl, hfw3⟩
    go_wp2_with fail
    have hj3 : js.length ≤ 20 := by omega
    have hjp : 0 < js.length := by omega
    have ht3 : od.length ≤ 200 := by omega
    have hI : JobsInv w w3 gB gm gr n s h t W0 (.slice none 0 0) 0 := ⟨_, _, _, hSt⟩
    clear hSt hj0 hj1 hj2 ht2 hfw3 hol hjl hwl
    obtain ⟨go, oo, rfl, hJ⟩ := HJ.out hjp
    have HJC := Lib.hid hJ
    clear hJ HJ
    have hgo : go < w.heap.size := by
      obtain ⟨q, hq⟩ : ∃ q, js[0]? = some q := ⟨js[0], List.getElem?_eq_getElem hjp⟩
      exact World.block_lt_of_cell? w _ (HJC.out 0 q hq).1
    go_loopw [14, 15] (fun v14 v15 wr => ∃ i : Nat, i ≤ js.length ∧ v15 = .int .i64 i ∧ JobsInv w wr gB gm gr n s h t W0 v14 i) (fun _ v15 _ => 20 - (intOf v15).toNat)
    case atStart => exact ⟨0, by omega, rfl, hI⟩
    case round =>
      clear hI
      obtain ⟨i, hi, rfl, L, ps, ms, hSt⟩ := hrel
      by_cases hlt : i < js.length
      · obtain ⟨⟨gv, head, at', ii⟩, hq⟩ : ∃ q, js[i]? = some q := ⟨js[i], List.getElem?_eq_getElem hlt⟩
        obtain ⟨c0, c1, c2, c3⟩ := HJC.out i _ hq
        rw [← hSt.fr.cell (p := ⟨go, _, none⟩) hgo id] at c0 c1 c2 c3
        simp only at c0 c1 c2 c3
        have CB := hSt.cfg.cells
        have q0 := CB 0
        have q1 := CB 1
        have q2 := CB 2
        have q3 := CB 3
        simp at q0 q1 q2 q3
        have lB := hSt.cfg.lt
        have lo : go < wr.heap.size := by have := hSt.fr.size; omega
        have hi1 : (i : Int) < js.length := by omega
        have hi0 : (0 : Int) ≤ (i : Int) := by omega
        clear CB hq
        go_wp2_with fail
        go_cut [16] (fun v16 wx => ∃ bx g r vt vg, v16 = .pointer (some ⟨bx, 0, none⟩) ∧ Blk wx bx #[vt, vg, .pointer (some ⟨r, 0, none⟩)] 62 ∧ wr.heap.size ≤ bx ∧ PairOf (jobM gv head at' ii) g vt vg ∧ ((jobM gv head at' ii).give = true → vt = .pointer none) ∧
          MchAt wx (fun i => i = g) g n s h t (jobM gv head at' ii) ∧ RchAt wx (fun i => i = r) r n s h t (jobM gv head at' ii) ∧ wr.heap.size ≤ g ∧ wr.heap.size ≤ r ∧ Fr No wr wx)
        case first =>
          go_region_held3 (fun w' => w'.cell? ⟨gB, 0, none⟩ = some (.int .i64 n) ∧ w'.cell? ⟨gB, 1, none⟩ = some (.int .i64 s) ∧ w'.cell? ⟨gB, 2, none⟩ = some (.int .i64 h) ∧ w'.cell? ⟨gB, 3, none⟩ = some (.int .u32 t) ∧
            w'.cell? ⟨go, oo + i * 4, none⟩ = some (.bool gv) ∧ w'.cell? ⟨go, oo + i * 4 + 1, none⟩ = some (.bool head) ∧ w'.cell? ⟨go, oo + i * 4 + 2, none⟩ = some (.int .i64 at') ∧ w'.cell? ⟨go, oo + i * 4 + 3, none⟩ = some (.int .i64 ii)) (first | (first | (go_keep; done) | (go_split_ands; (repeat' apply And.intro) <;> first | assumption | (refine (Fr.cell (S := No) (by assumption) (by first | (simp; done) | (simp; omega) | omega) id).trans ?_; first | assumption | (simp; done) | (simp; assumption)) | (refine (Fr.frozen (S := No) (by assumption) (by first | (simp; done) | (simp; omega) | omega) id).trans ?_; first | assumption | (simp; done) | (simp; assumption)))) | ((go_split_ands; (repeat' apply And.intro) <;> first | assumption | ((repeat (first | rw [World.cell?_drew] | rw [World.cell?_alloc_lt _ _ _ (by first | (simp; done) | (simp; omega))])); assumption) | (simp [*]; done) | (simp [*, World.cell?_alloc_some, World.cell?_setCell_far]; done))))
            (first
              | ((go_at_call 37; refine (made7_ _ n s h t gv head at' ii).mono ?_; rintro e w5 ⟨g, r, vt, vg, rfl, hp, hvt, hX, hR, hg, hr, hf5⟩; obtain ⟨pt, pg, rfl, rfl⟩ := pair_ptr hp hvt; have hC5 := hf5.keepNo (blk_at wr.drew (cs := #[.pointer none, .pointer none, .pointer none]) (t := 62) (k := wr.heap.size) rfl); have E5 := hC5.cells; have G5 := hC5.free; have l5 := hC5.lt; have hF5 := (((Fr.refl No wr).drew).alloc _).then hf5; have n1 := Nat.ne_of_lt lB; have n2 := Nat.ne_of_lt lo; have n3 := Ne.symm n1; have n4 := Ne.symm n2))
              | ((go_at_call 37; refine (made7_ _ n s h t gv head at' ii).mono ?_; rintro e w5 ⟨g, r, vt, vg, rfl, hp, hvt, hX, hR, hg, hr, hf5⟩; obtain ⟨pt, pg, rfl, rfl⟩ := pair_ptr hp hvt; have hF5 := ((Fr.refl No wr).drew).then hf5; have lB5 := Nat.lt_of_lt_of_le lB hF5.size; have lo5 := Nat.lt_of_lt_of_le lo hF5.size; have d0 := (hF5.cell (p := ⟨go, oo + i * 4, none⟩) lo id).trans c0; have b0 := (hF5.cell (p := ⟨gB, 0, none⟩) lB id).trans q0; have d1 := (hF5.cell (p := ⟨go, oo + i * 4 + 1, none⟩) lo id).trans c1; have b1 := (hF5.cell (p := ⟨gB, 1, none⟩) lB id).trans q1; have d2 := (hF5.cell (p := ⟨go, oo + i * 4 + 2, none⟩) lo id).trans c2; have b2 := (hF5.cell (p := ⟨gB, 2, none⟩) lB id).trans q2; have d3 := (hF5.cell (p := ⟨go, oo + i * 4 + 3, none⟩) lo id).trans c3; have b3 := (hF5.cell (p := ⟨gB, 3, none⟩) lB id).trans q3)))
          · go_wp2_with fail
            go_meet
            simp only [World.size_drew] at hg hr
            exact ⟨w5.heap.size, g, r, _, _, rfl, blk_new _ _ _, hF5.size, hp, hvt, hX.move ((Fr.refl No _).alloc _) (fun _ _ h => h), hR.move ((Fr.refl No _).alloc _) (fun _ _ h => h), hg, hr, hF5.alloc _⟩
          · go_wp2_with fail
            go_meet
            have hst : Fr (fun i => i = wr.heap.size) w5 (((w5.setCell ⟨wr.heap.size, 0, none⟩ (.pointer pt)).setCell ⟨wr.heap.size, 1, none⟩ (.pointer pg)).setCell ⟨wr.heap.size, 2, none⟩ (.pointer (some ⟨r, 0, none⟩))) :=
              Fr.setCell (Fr.setCell (Fr.setCell (Fr.refl (fun i => i = wr.heap.size) w5) (.inr (by rfl)) _) (.inr (by rfl)) _) (.inr (by rfl)) _
            have hst2 : Fr No wr (((w5.setCell ⟨wr.heap.size, 0, none⟩ (.pointer pt)).setCell ⟨wr.heap.size, 1, none⟩ (.pointer pg)).setCell ⟨wr.heap.size, 2, none⟩ (.pointer (some ⟨r, 0, none⟩))) :=
              Fr.setCell (Fr.setCell (Fr.setCell hF5 (.inl (Nat.le_refl _)) _) (.inl (Nat.le_refl _)) _) (.inl (Nat.le_refl _)) _
            simp only [World.size_drew, World.size_alloc] at hg hr
            exact ⟨wr.heap.size, g, r, _, _, rfl, ((hC5.set 0 _).set 1 _).set 2 _, Nat.le_refl _, hp, hvt, hX.move hst (fun i hi => by rw [hi]; omega), hR.move hst (fun i hi => by rw [hi]; omega), by omega, by omega, hst2⟩
        case rest =>
          obtain ⟨bx, g, r, vt, vg, rfl, hBx, hbx, hp, hvt, hX, hR, hg, hr, hF⟩ := hcut
          obtain ⟨L', hE, hSt', hX', hR', hL0⟩ := hSt.made hF hg hr hX hR
          obtain ⟨pt, pg, rfl, rfl⟩ := pair_ptr hp hvt
          have CX := hBx.cells
          have hil : i ≤ 1000 := by omega
          clear c0 c1 c2 c3 q0 q1 q2 q3 lB lo hX hR hF hSt
          have hO := hSt'.pairs
          rcases hp with ⟨hp1, hp2⟩ | ⟨hp1, hp2, hp3⟩
          · cases hp2
            have hv := hvt hp1
            cases hv
            go_wp2_with (at_builtin; (refine wp_append_1 rfl _ _ 57 62 (.agg #[.pointer none, .pointer none, .pointer none]) 24 rfl Try.underlying57 info_pair rfl (by decide) (by decide) hO rfl #[.pointer none, .pointer (some ⟨g, 0, none⟩), .pointer (some ⟨r, 0, none⟩)] _ rfl rfl rfl (by simp [Value.oneCell']) (by omega) ?_); intro g' cap' w6 hO6 hf6 hr6)
            obtain ⟨L6, hSt6⟩ := hSt'.more (.inl ⟨hp1, rfl⟩) hvt hX' hR' hO6 hf6
            go_roundw
            case rel => exact ⟨i + 1, by omega, by go_num, L6, _, _, hSt6⟩
            case measure => simp [intOf]; omega
          · cases hp2
            cases hp3
            go_wp2_with (at_builtin; (refine wp_append_1 rfl _ _ 57 62 (.agg #[.pointer none, .pointer none, .pointer none]) 24 rfl Try.underlying57 info_pair rfl (by decide) (by decide) hO rfl #[.pointer (some ⟨g, 0, none⟩), .pointer none, .pointer (some ⟨r, 0, none⟩)] _ rfl rfl rfl (by simp [Value.oneCell']) (by omega) ?_); intro g' cap' w6 hO6 hf6 hr6)
            obtain ⟨L6, hSt6⟩ := hSt'.more (.inr ⟨hp1, rfl, rfl⟩) hvt hX' hR' hO6 hf6
            go_roundw
            case rel => exact ⟨i + 1, by omega, by go_num, L6, _, _, hSt6⟩
            case measure => simp [intOf]; omega
      · have hip : 0 < i := by omega
        have hi20 : i ≤ 20 := by omega
        obtain ⟨A14, c14, rfl, hc14, _⟩ := hSt.pairs.slice
        go_wp2_with fail
        have hI : TurnsInv w wr gB gm gr n s h t (.slice A14 i c14) i 0 := ⟨L, ps, ms, W0, 0, hSt, Nat.le_refl _, hwl2⟩
        clear hSt
        go_loopw [17] (fun v17 wr => ∃ k : Nat, k ≤ od.length ∧ v17 = .int .i64 k ∧ TurnsInv w wr gB gm gr n s h t (.slice A14 i c14) i k) (fun v17 _ => 200 - (intOf v17).toNat)
        case atStart => exact ⟨0, by omega, rfl, hI⟩
        case round =>
          clear hI
          obtain ⟨k, hk, rfl, L, ps, ms, ws, c, hSt, hc, hwl3⟩ := hrel
          by_cases hkt : k < od.length
          · obtain ⟨gt, ot, ct', hvt, _, _, hgt, hct⟩ := HO.out.at (by omega)
            cases hvt
            have hck := hct k hkt
            have hck2 := (hSt.fr.cell (p := ⟨gt, ot + k, none⟩) hgt id).trans hck
            clear hck hct
            obtain ⟨y, hy⟩ : ∃ y, y = od.getD k 0 := ⟨_, rfl⟩
            have hyi := HOI.out k
            rw [← hy] at hck2 hyi
            obtain ⟨hy0, hy1⟩ := hyi
            clear hy
            have hk1 : (k : Int) < od.length := by omega
            have hk0 : (0 : Int) ≤ (k : Int) := by omega
            go_wp2_with fail
            refine (pick7_ _ _ _ hy0 hy1 (by omega) (by omega)).mono ?_
            rintro e w8 ⟨rfl, rfl⟩
            have hq := pickV_bd y i (by omega)
            obtain ⟨j, hje⟩ : ∃ j : Nat, pickV y i = (j : Int) := ⟨(pickV y i).toNat, by omega⟩
            rw [hje] at hq ⊢
            have hj4 : j < i := by omega
            have hj4i : (j : Int) < i := by omega
            have hj0 : (0 : Int) ≤ (j : Int) := by omega
            clear hq hje
            obtain ⟨ga, ca, hva, _, lga, _, hca, _⟩ := hSt.pairs.form hip
            cases hva
            obtain ⟨f0, f1, f2⟩ := flat_get ps hj4
            have c0 := (hca _ (by rw [flat_len]; omega)).trans f0
            have c1 := (hca _ (by rw [flat_len]; omega)).trans f1
            have c2 := (hca _ (by rw [flat_len]; omega)).trans f2
            obtain ⟨g, hp, hvt0, hX, hR⟩ := hSt.slot j hj4
            obtain ⟨pt, pg, hpt, hpg⟩ := pair_ptr hp hvt0
            rw [hpt] at c0
            rw [hpg] at c1
            obtain ⟨r, hr⟩ : ∃ r, r = (ps j).2.2 := ⟨_, rfl⟩
            rw [← hr] at c2
            have hp' : PairOf (ms j) g (.pointer pt) (.pointer pg) := by rw [← hpt, ← hpg]; exact hp
            have HPT := Lib.hid hpt
            have HPG := Lib.hid hpg
            have HRE := Lib.hid hr
            clear f0 f1 f2 hca hr hpt hpg hp
            go_upto_region 18 with (fail)
            obtain ⟨bx, hbx⟩ : ∃ bx, bx = wr.heap.size := ⟨_, rfl⟩
            obtain ⟨wx, hwx⟩ : ∃ wx, wx = wr.alloc (.cells #[.pointer pt, .pointer pg, .pointer (some ⟨r, 0, none⟩)] 62) := ⟨_, rfl⟩
            have hfx : Fr No wr wx := by rw [hwx]; exact (Fr.refl No wr).alloc _
            have hBx : Blk wx bx #[.pointer pt, .pointer pg, .pointer (some ⟨r, 0, none⟩)] 62 := by rw [hwx]; exact blk_at _ hbx
            rw [← hwx, ← hbx]
            have hSt1 := hSt.relab hfx 0
            have hLb : re L wr 0 bx = 0 := by rw [hbx, re, if_neg (by omega)]
            obtain ⟨_, _, hX1, hR1⟩ : ∃ g', True ∧ MchAt wx (Lab (re L wr 0) wx (3 + 2 * j)) g n s h t (ms j) ∧ True := ⟨0, trivial, hX.lab (S := fun _ => False) (FrL.ofNo hfx) (ext_re L wr 0) id, trivial⟩
            have hwords := hSt.words
            have hok : (ms j).ok := hX.2.1
            obtain ⟨L1, hL1⟩ : ∃ L1, L1 = re L wr 0 := ⟨_, rfl⟩
            rw [← hL1] at hSt1 hLb hX1
            have CX := hBx.cells
            obtain ⟨⟨m', ws', c'⟩, hrr⟩ : ∃ rr, rr = mgo n s h (ms j) ws c := ⟨_, rfl⟩
            have hw' := mgo_words (n := n) (s := s) (h := h) (k := c) hwords hok
            have hc' := mgo_count n s h (ms j) ws c
            have hl' := mgo_len n s h (ms j) ws c
            rw [← hrr] at hw' hc' hl'
            have hge := mgo_give n s h (ms j) ws c
            rw [← hrr] at hge
            simp only at hw' hc' hl' hge
            have HRR := Lib.hid hrr
            have HGE := Lib.hid hge
            have HL' := Lib.hid hl'
            have HBX := Lib.hid hbx
            clear hrr hge hl' hwx hL1 hX hR c0 c1 c2 hck2 hR1 hbx hfx hSt
            go_wp2_with fail
            refine (pstep_ _ (.pointer pt) (.pointer pg) _ hp' hX1 (by omega) hSt1.mem (by omega) hwords).mono ?_
            rw [← HRR.out]
            rintro e w3 ⟨rfl, hG⟩
            obtain ⟨L3, hE3, hf3, hMid⟩ := hSt1.left hj4 hG
            have hBx3 := Fr.keep hf3 hBx (by rw [hLb]; omega)
            have CX3 := hBx3.cells
            clear CX hSt1 hX1 hG
            go_wp2_with fail
            rw [HRE.out]
            refine (RStep_ _ hMid.rch (by omega) hMid.ref (by omega) hwords).mono ?_
            rw [← HRR.out]
            rintro e w4 hR4
            have hR4' := hR4
            obtain ⟨rfl, _⟩ := hR4'
            obtain ⟨L4, hSt4⟩ := hMid.right hj4 (by rw [HPT.out, HPG.out]; exact PairOf.to hp' HGE.out) (fun h => hvt0 (HGE.out ▸ h)) hw' hR4 rfl
            obtain ⟨_, vw4, vn4, ns4, hB4, hW4, hN4⟩ := hSt4.ref
            obtain ⟨An, cn, rfl, _, _⟩ := hN4.slice
            have q1 := hB4.cells 1
            simp at q1
            have lr4 := hB4.lt
            have hM4 := hSt4.mem
            clear CX3 hMid hR4 hW4 hN4 hB4
            go_wp2_with fail
            go_region_held3 (fun w' => w'.cell? ⟨gr, 1, none⟩ = some (.slice An c' cn)) (first | (go_keep; done) | (go_split_ands; (repeat' apply And.intro) <;> first | assumption | (refine (Fr.cell (S := No) (by assumption) (by first | (simp; done) | (simp; omega) | omega) id).trans ?_; first | assumption | (simp; done) | (simp; assumption)) | (refine (Fr.frozen (S := No) (by assumption) (by first | (simp; done) | (simp; omega) | omega) id).trans ?_; first | assumption | (simp; done) | (simp; assumption)))) ((go_at_call 41; refine (Count_ _ (hM4.no ((Fr.refl No w4).drew))).mono ?_; rintro e w5 ⟨rfl, rfl⟩))
            go_wp2_with fail
            go_roundw
            case rel => exact ⟨k + 1, by omega, by go_num, L4, ps, _, ws', c', hSt4.no ((Fr.refl No w4).drew), by omega, by rw [HL'.out]; exact hwl3⟩
            case measure => simp [intOf]; omega
          · have hkt1 : ¬ (k : Int) < od.length := by omega
            obtain ⟨_, vw4, vn4, ns4, hB4, hW4, hN4⟩ := hSt.ref
            obtain ⟨Av, cv, rfl, _, _⟩ := hW4.slice
            have q0 := hB4.cells 0
            simp at q0
            have lr4 := hB4.lt
            have hM4 := hSt.mem
            have hWr := hW4.rd
            clear hB4 hN4
            go_wp2_with fail
            go_region_held3 (fun w' => w'.cell? ⟨gr, 0, none⟩ = some (.slice Av ws.length cv)) (first | (go_keep; done) | (go_split_ands; (repeat' apply And.intro) <;> first | assumption | (refine (Fr.cell (S := No) (by assumption) (by first | (simp; done) | (simp; omega) | omega) id).trans ?_; first | assumption | (simp; done) | (simp; assumption)) | (refine (Fr.frozen (S := No) (by assumption) (by first | (simp; done) | (simp; omega) | omega) id).trans ?_; first | assumption | (simp; done) | (simp; assumption))))
              (first | ((go_at_call 43; refine (Words_ _ (hM4.no ((Fr.refl No wr).drew)) (by omega)).mono ?_; rintro e w5 ⟨v5, rfl, hO5, hf5⟩; obtain ⟨A5, c5, rfl, _, _⟩ := hO5.slice; have lr5 : gr < w5.heap.size := Nat.lt_of_lt_of_le lr4 hf5.size)) | ((go_at_call 42; refine (Same64 _ _ _ _ _ ws hO5.rd (hWr.keepNo (((Fr.refl No wr).drew).then hf5))).mono ?_; rintro e w6 ⟨rfl, hf6⟩)))
            go_wp2_with fail
            go_ret
            exact ⟨rfl, ((hSt.fr.drew).then hf5).then hf6⟩
end Go.Proofs.Ytfglpigoljclbaa.H
