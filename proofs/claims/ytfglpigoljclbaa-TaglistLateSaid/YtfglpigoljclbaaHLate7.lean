/- Law 7's TaglistLate: a machine whose list was changed between its first step and its last one is Contended. -/
import Derived.Test.YtfglpigoljclbaaHLate
set_option linter.unusedVariables false
set_option linter.unusedSimpArgs false
namespace Go.Proofs.Ytfglpigoljclbaa.H
open Go.RowKit
attribute [local go_sem ↓] Go.wp_at_zero Go.wp_at_succ

/-- Ahead of p's first step: p is a Take, or a Give of the first node. -/
def LateA (w wr : World) (gB gm gP : Nat) (n t : Int) (gv : Bool) : Prop :=
  ∃ L gX vt vg ws c, LateSt w wr L gB gm gP gX n t vt vg (lateM gv) ws c ∧ Pl n ws ∧ c ≤ 100 ∧
    (gv = false → ws.getD 1 0 % 4294967296 = 1) ∧ (gv = true → 2 ≤ n → ws.getD 1 0 % 4294967296 = 2)

/-- Behind p's first step, or its second one. -/
def LateB (w wr : World) (gB gm gP gX : Nat) (n t v0 : Int) (gv : Bool) (vt vg : Value) (pc : Nat) (j : Nat) : Prop :=
  ∃ L u ws c, LateSt w wr L gB gm gP gX n t vt vg ⟨gv, 1, 1, v0, pc, u, 0⟩ ws c ∧ LateW n v0 j ws ∧ c ≤ 200 + 6 * j + pc ∧ pc ≤ 2

set_option maxRecDepth 100000 in
set_option maxHeartbeats 8000000 in
theorem TaglistLate_ (w : World) (a p q t : Int) (gv : Bool) (ha : I64 a) (hp : I64 p) (hq : I64 q) (ht0 : 0 ≤ t) (ht1 : t < 4294967296) :
    Calls Try.prog 6 #[.int .i64 a, .int .u32 t, .int .i64 p, .int .i64 q, .bool gv] w fun e w' => e = .returned (.bool true) ∧ Fr No w w' := by
  obtain ⟨a0, a1⟩ := ha
  obtain ⟨p0, p1⟩ := hp
  obtain ⟨q0, q1⟩ := hq
  go_enter Try.func6, Try.ntmps6
  go_wp2_with fail
  refine (shown7_ _).mono ?_
  rintro e w1 ⟨rfl, hf1⟩
  go_wp2_with fail
  refine (config7_ _ _ _ _ _ a0 a1 (by omega) (by omega) (by omega) (by omega)).mono ?_
  rintro e w2 ⟨rfl, hf2⟩
  rw [pick00.1, pick00.2]
  have hn := pickV_bd a 64 (by omega)
  obtain ⟨n, hnn⟩ : ∃ n, n = 1 + pickV a 64 := ⟨_, rfl⟩
  rw [← hnn]
  have hn1 : 1 ≤ n := by omega
  have hn2 : n ≤ 64 := by omega
  clear hnn hn
  have hfw2 := hf1.then hf2
  obtain ⟨gB, hgB⟩ : ∃ gB, gB = w2.heap.size := ⟨_, rfl⟩
  have hB2 := blk_at w2 (cs := #[.int .i64 n, .int .i64 0, .int .i64 0, .int .u32 t]) (t := 25) hgB
  clear hf1 hf2
  obtain ⟨N, hN⟩ : ∃ N : Nat, 2 + 2 * n + 0 + 0 = (N : Int) := ⟨(2 + 2 * n).toNat, by omega⟩
  have ok : cfgOk n 0 0 := by unfold cfgOk; omega
  have HN := Lib.hid hN
  have hN4 : 4 ≤ N := by omega
  have hN5 : N ≤ 130 := by omega
  clear hN
  go_wp2_with fail
  refine (Fresh_N _ n 0 0 t N HN.out ok ht0 ht1).mono ?_
  rintro e w3 ⟨gw, cw, rfl, hW3, hf3⟩
  rw [← hgB]
  have hgB0 : w.heap.size ≤ gB := by have := hfw2.size; omega
  have hB3 := hf3.keepNo hB2
  have hfw3 := (hfw2.alloc _).then hf3
  have hal := al_0 hn1 hn2 ht0 ht1
  have htk := late_taken hn1 hn2 ht0 ht1
  have hfl : (freshL n 0 0 t).length = N := by rw [freshL, tab_len]; have := HN.out; omega
  generalize freshL n 0 0 t = W0 at hW3 hal htk hfl
  clear hfw2 hB2 hf3 hgB
  go_wp2_with fail
  refine (New_yes _ _ W0 hW3.rd (by omega)).mono ?_
  rintro e w4 ⟨gm, rfl, hM4, hf4⟩
  have hM4 := hM4.born (fun _ => 0) 1
  have hB4 := hf4.keepNo hB3
  have hBs : Bs w w4 (re (fun _ => 0) w3 1) gB gm n t W0 0 :=
    ⟨hfw3.then hf4, (Old.zero w).ext (ext_re _ _ _) hfw3.size, hB4, by rw [re, if_pos hB3.lt], hM4⟩
  have C4 := hB4.cells
  obtain ⟨L4, hL4⟩ : ∃ L4, L4 = re (fun _ => 0) w3 1 := ⟨_, rfl⟩
  rw [← hL4] at hBs
  clear hM4 hf4 hB3 hfw3 hW3 hfl hL4
  go_wp2_with fail
  refine (NewTake_ _ n 0 0 t 1).mono ?_
  rintro e w5 ⟨gt, rfl, hX5, hf5⟩
  have hX5 := hX5.born L4 2
  have hBs5 := hBs.re hf5 2
  clear C4 hB4 hBs hf5
  go_upto_if 63 with (fail)
  obtain ⟨gP, hgP⟩ : ∃ gP, gP = w5.heap.size := ⟨_, rfl⟩
  obtain ⟨L5, hL5⟩ : ∃ L5, L5 = re (re L4 w4 2) w5 0 := ⟨_, rfl⟩
  obtain ⟨w6, hw6⟩ : ∃ w6, w6 = w5.alloc (.cells #[.pointer (some ⟨gt, 0, none⟩), .pointer none, .pointer none] 62) := ⟨_, rfl⟩
  have hfA : Fr No w5 w6 := by rw [hw6]; exact (Fr.refl No w5).alloc _
  have hSt : LateSt w w6 L5 gB gm gP gt n t (.pointer (some ⟨gt, 0, none⟩)) (.pointer none) ⟨false, 1, 0, 0, 0, 0, 0⟩ W0 0 := by
    rw [hL5]
    exact ⟨hBs5.re hfA 0, by rw [hw6]; exact blk_at _ hgP, by rw [hgP, re, if_neg (by omega)], by rw [hgP]; exact hBs5.fr.size, hX5.lab (S := fun _ => False) (FrL.ofNo hfA) (ext_re _ w5 0) id, .inr ⟨rfl, rfl, rfl⟩⟩
  rw [← hw6, ← hgP]
  clear hX5 hBs5 hfA hL5 hgP hw6
  have hw1 : W0.getD 1 0 % 4294967296 = 1 ∧ W0.getD 1 0 / 4294967296 = t := by
    have := hal.ch1
    have h2 := hal.tag1
    rw [show n.toNat - 0 = (n.toNat - 1) + 1 by omega] at this
    exact ⟨this.1, by rw [h2]; simp; omega⟩
  have hpl := hal.pl
  obtain ⟨ws1, T1, P1, hws1⟩ := htk
  have HW1 := Lib.hid hw1
  have HWS1 := Lib.hid hws1
  clear hal hw1 hws1
  go_cut [] (fun wx => LateA w wx gB gm gP n t gv)
  case first =>
    cases gv with
    | false =>
      go_wp2_with fail
      go_meet
      exact ⟨L5, gt, _, _, W0, 0, hSt, hpl, by omega, fun _ => HW1.out.1, fun h => by cases h⟩
    | true =>
      obtain ⟨ms, wss, hR, e0, e1, e3⟩ := T1.run rfl hpl.words P1.words
      have hM6 := hSt.bs.mem
      have hX6 := hSt.mch
      rw [← e0] at hX6
      rw [← e1] at hM6
      have hv6 : PairOf (ms 0) gt (.pointer (some ⟨gt, 0, none⟩)) (.pointer none) := .inr ⟨by rw [e0], rfl, rfl⟩
      have HE := Lib.hid e3
      have C6 := hSt.box.cells
      clear e0 e1 e3 T1
      go_wp2_with fail
      refine (ends7_ _ 3 ms wss 1 _ _ _ hv6 hX6 (by decide) (by decide) (by decide) hM6 (by omega) (by omega) hR).mono ?_
      rintro e w7 ⟨rfl, hL7⟩
      rw [HE.out] at hL7
      obtain ⟨L7, hbs7, _, hE7, hf7⟩ := hSt.bs.left (by decide) hL7
      have hB7 := hbs7.cfg
      have C7 := hB7.cells
      have hP7 := Fr.keep hf7 hSt.box (by rw [hSt.boxL]; decide)
      have hP7L : L7 gP = 0 := (hE7 gP hSt.box.lt).trans hSt.boxL
      clear C6 hX6 hM6 hv6 hL7
      go_wp2_with fail
      refine (NewGive_ _ n 0 0 t 1 1 (by omega) (by omega)).mono ?_
      rintro e w8 ⟨gg, rfl, hX8, hf8⟩
      have hX8 := hX8.born L7 2
      have hbs8 := hbs7.re hf8 2
      have hP8 := hf8.keepNo hP7
      have hP8L : re L7 w7 2 gP = 0 := (ext_re L7 w7 2 gP hP7.lt).trans hP7L
      have C8 := hP8.cells
      have F8 := hP8.free
      have l8 := hP8.lt
      clear C7
      go_wp2_with fail
      go_meet
      have hne : gB ≠ gP := blk_ne hbs8.cfg hP8 (by decide)
      have hnew := hSt.new
      have hfs : FrL (re L7 w7 2) (fun k => k = 0) w8 (((w8.setCell ⟨gP, 0, none⟩ (.pointer none)).setCell ⟨gP, 1, none⟩ (.pointer (some ⟨gg, 0, none⟩))).setCell ⟨gP, 2, none⟩ (.pointer none)) := Fr.setCell (Fr.setCell (Fr.setCell (Fr.refl _ _) (.inr hP8L) _) (.inr hP8L) _) (.inr hP8L) _
      have hfs2 : Fr No w (((w8.setCell ⟨gP, 0, none⟩ (.pointer none)).setCell ⟨gP, 1, none⟩ (.pointer (some ⟨gg, 0, none⟩))).setCell ⟨gP, 2, none⟩ (.pointer none)) := Fr.setCell (Fr.setCell (Fr.setCell hbs8.fr (.inl hnew) _) (.inl hnew) _) (.inl hnew) _
      exact ⟨_, gg, .pointer none, .pointer (some ⟨gg, 0, none⟩), ws1, 0 + 3, ⟨hbs8.free hfs hfs2 (((hbs8.cfg.far (p := ⟨gP, 0, none⟩) hne _).far (p := ⟨gP, 1, none⟩) hne _).far (p := ⟨gP, 2, none⟩) hne _), ((hP8.set 0 _).set 1 _).set 2 _, hP8L, hnew, hX8.free hfs (by decide), .inl ⟨rfl, rfl⟩⟩, P1, by omega, (fun h => by cases h), fun _ h => HWS1.out h⟩
  case rest =>
    obtain ⟨L6, gX, vt, vg, ws, c, hSt, hpl, hc, hcF, hcT⟩ := hcut
    have C6 := hSt.box.cells
    obtain ⟨v0, hv0⟩ : ∃ v0, v0 = ws.getD 1 0 := ⟨_, rfl⟩
    have hv := hpl.words 1
    have K1 := fun c => late_first (gv := gv) hpl hcF c
    have hLW := late_0 hpl
    rw [← hv0] at hv hLW hcF hcT
    simp only [← hv0] at K1
    have HV := Lib.hid hv
    have HCF := Lib.hid hcF
    have HCT := Lib.hid hcT
    have HK1 := Lib.hid K1
    clear hv0 hv hcF hcT K1 HW1 HWS1 T1
    go_wp2_with fail
    refine ((pstep_ _ vt vg _ hSt.pair hSt.mch (by decide) hSt.bs.mem (by omega) hpl.words).mono fun e w' h => h.to (HK1.out c) rfl rfl).mono ?_
    rintro e w7 ⟨rfl, hL7⟩
    obtain ⟨L7, hSt7⟩ := hSt.step hL7 lateM_give.symm
    clear hL7 C6
    have hQ := pickV_bd q 2 (by omega)
    obtain ⟨Q, hQe⟩ : ∃ Q, Q = pickV q 2 := ⟨_, rfl⟩
    rw [← hQe] at hQ
    have HQ := Lib.hid hQe
    obtain ⟨Q0, Q1⟩ := hQ
    clear hQe
    go_wp2_with fail
    refine (pick7_ _ _ _ q0 q1 (by omega) (by omega)).mono ?_
    rintro e w8 ⟨rfl, rfl⟩
    rw [← HQ.out]
    go_upto_if 79 with (fail)
    have C7 := hSt7.box.cells
    go_cut [] (fun wx => LateB w wx gB gm gP gX n t v0 gv vt vg (latePc Q) 0)
    case first =>
      by_cases hQ1 : Q = 1
      · subst hQ1
        obtain ⟨u', ws', K2, hLW2⟩ := late_second (gv := gv) (u := 0) hLW
        have HK2 := Lib.hid K2
        clear K2
        go_wp2_with fail
        refine ((pstep_ _ vt vg _ hSt7.pair hSt7.mch (by decide) hSt7.bs.mem (by omega) hLW.pl.words).mono fun e w' h => h.to (HK2.out (c + 1)) rfl rfl).mono ?_
        rintro e w9 ⟨rfl, hL9⟩
        obtain ⟨L9, hSt9⟩ := hSt7.step hL9 rfl
        go_wp2_with fail
        go_meet
        exact ⟨L9, u', ws', c + 1 + 1, hSt9, hLW2, by simp [latePc]; omega⟩
      · have hQ2 : (Q == 1) = false := by simpa using hQ1
        go_wp2_with fail
        go_meet
        have : Q = 0 := by omega
        subst this
        exact ⟨L7, 0, ws, c + 1, hSt7, hLW, by simp [latePc]; omega⟩
    case rest =>
      clear hSt7 C7 hLW hSt
      have hP := pickV_bd p 4 (by omega)
      obtain ⟨P, hPe⟩ : ∃ P : Nat, pickV p 4 = (P : Int) := ⟨(pickV p 4).toNat, by omega⟩
      rw [hPe] at hP
      have hP3 : P ≤ 3 := by omega
      have HPE := Lib.hid hPe
      clear hPe hP
      go_wp2_with fail
      refine (pick7_ _ _ _ p0 p1 (by omega) (by omega)).mono ?_
      rintro e w8 ⟨rfl, rfl⟩
      rw [HPE.out]
      go_upto_region 22 with (fail)
      have hN0 : Blk wc gB #[.int .i64 n, .int .i64 0, .int .i64 0, .int .u32 t] 25 := by
        obtain ⟨_, _, _, _, h, _⟩ := hcut
        exact h.bs.cfg
      have C0 := hN0.cells
      have HB := Lib.hid hcut
      clear hcut hN0
      go_cut [90] (fun v90 wx => wx = wc ∧ v90 = .bool (gv && decide (n < 2)))
      case first =>
        cases gv with
        | false =>
          go_wp2_with fail
          go_meet
          exact ⟨rfl, rfl⟩
        | true =>
          by_cases hn3 : n < 2
          · go_wp2_with fail
            go_meet
            exact ⟨rfl, by simp [hn3]⟩
          · go_wp2_with fail
            go_meet
            exact ⟨rfl, by simp [hn3]⟩
      case rest =>
      obtain ⟨rfl, rfl⟩ := hcut
      obtain ⟨tb, htb⟩ : ∃ tb, tb = (gv && decide (n < 2)) := ⟨_, rfl⟩
      rw [← htb]
      have HTB := Lib.hid htb
      clear htb C0
      go_upto_if 90 with (fail)
      go_cut [20] (fun v20 wx => wx = wc ∧ ∃ M : Nat, v20 = .int .i64 M ∧ M ≤ 3 ∧ (0 < M → gv = true → 2 ≤ n))
      case first =>
        cases tb with
        | false =>
          go_wp2_with fail
          go_meet
          refine ⟨rfl, P, rfl, hP3, fun _ h => ?_⟩
          have := HTB.out
          rw [h] at this
          simp at this
          omega
        | true =>
          go_wp2_with fail
          go_meet
          exact ⟨rfl, 0, rfl, by omega, fun h => by omega⟩
      case rest =>
        obtain ⟨rfl, M, rfl, hM3, hMn⟩ := hcut
        have HMN := Lib.hid hMn
        clear hMn
        go_wp2_with fail
        go_loopw [21] (fun v21 wr => ∃ j : Nat, j ≤ M ∧ v21 = .int .i64 j ∧ LateB w wr gB gm gP gX n t v0 gv vt vg (latePc Q) j) (fun v21 _ => 3 - (intOf v21).toNat)
        case atStart => exact ⟨0, by omega, rfl, HB.out⟩
        case round =>
          clear HB
          obtain ⟨j, hj, rfl, L, u, ws, c, hSt, hLW, hcc⟩ := hrel
          by_cases hlt : j < M
          · have hx : 1 ≤ v0 % 4294967296 ∧ v0 % 4294967296 ≤ n := by
              cases gv with
              | false => have := HCF.out rfl; omega
              | true => have h2 := HMN.out (by omega) rfl; have := HCT.out rfl h2; omega
            obtain ⟨wsa, wsb, T1, T2, hwa, hLW2⟩ := late_between hLW hx.1 hx.2
            obtain ⟨x, hxe⟩ : ∃ x, x = v0 % 4294967296 := ⟨_, rfl⟩
            rw [← hxe] at hx T1 T2
            obtain ⟨x1, x2⟩ := hx
            obtain ⟨ms, wss, hR, e0, e1, e3⟩ := T2.run rfl hwa hLW2.pl.words
            obtain ⟨m1, wsx, m2, wsy, m3, r1, s1, r2, s2, r3, s3, i3, o1, o2, hwx, hwy⟩ := T1
            have HR1 := Lib.hid (And.intro r1 (And.intro s1 (told_run s1)))
            have HR2 := Lib.hid (And.intro r2 (And.intro s2 (told_run s2)))
            have HR3 := Lib.hid (And.intro r3 (And.intro s3 ((told_done s3).trans i3)))
            have HE0 := Lib.hid e0
            have HE1 := Lib.hid e1
            have HE3 := Lib.hid e3
            have HX := Lib.hid hxe
            have C0 := hSt.bs.cfg.cells
            clear r1 s1 r2 s2 r3 s3 i3 e0 e1 e3 hxe
            go_wp2_with fail
            refine (NewTake_ _ n 0 0 t 1).mono ?_
            rintro e w10 ⟨gt, rfl, hX10, hf10⟩
            have hX10 := hX10.born L 3
            have hSt10 := hSt.re hf10 3
            clear C0 hf10
            go_wp2_with fail
            refine ((StepTake _ hX10 (by decide) hSt10.bs.mem (by omega) hLW.pl.words).mono fun e w' h => h.to (HR1.out.1 c) HR1.out.2.1 HR1.out.2.2).mono ?_
            rintro e w11 ⟨rfl, hL11⟩
            obtain ⟨L11, hSt11, hX11⟩ := hSt10.other hL11
            clear hL11 hX10
            go_wp2_with fail
            refine ((StepTake _ hX11 (by decide) hSt11.bs.mem (by omega) hwx).mono fun e w' h => h.to (HR2.out.1 (c + 1)) HR2.out.2.1 HR2.out.2.2).mono ?_
            rintro e w12 ⟨rfl, hL12⟩
            obtain ⟨L12, hSt12, hX12⟩ := hSt11.other hL12
            clear hL12 hX11 hSt10
            go_wp2_with fail
            refine ((StepTake _ hX12 (by decide) hSt12.bs.mem (by omega) hwy).mono fun e w' h => h.to (HR3.out.1 (c + 1 + 1)) HR3.out.2.1 HR3.out.2.2).mono ?_
            rintro e w13 ⟨rfl, hL13⟩
            obtain ⟨L13, hSt13, _⟩ := hSt12.other hL13
            have C13 := hSt13.bs.cfg.cells
            clear hL13 hX12 hSt11 hSt12
            go_wp2_with fail
            refine (NewGive_ _ n 0 0 t 1 x (by omega) (by omega)).mono ?_
            rintro e w14 ⟨gg, rfl, hX14, hf14⟩
            have hX14 := hX14.born L13 3
            have hSt14 := hSt13.re hf14 3
            have hM14 := hSt14.bs.mem
            rw [← HE0.out] at hX14
            rw [← HE1.out] at hM14
            have hv14 : PairOf (ms 0) gg (.pointer none) (.pointer (some ⟨gg, 0, none⟩)) := .inl ⟨by rw [HE0.out], rfl⟩
            clear C13 hf14 hSt13
            go_wp2_with fail
            refine (ends7_ _ 3 ms wss x _ _ _ hv14 hX14 (by decide) (by decide) (by decide) hM14 (by omega) (by omega) hR).mono ?_
            rintro e w15 ⟨rfl, hL15⟩
            rw [HE3.out] at hL15
            obtain ⟨L15, hSt15, _⟩ := hSt14.other hL15
            clear hL15 hX14 hSt14 hM14 hv14
            go_wp2_with fail
            go_roundw
            case rel => exact ⟨j + 1, by omega, by go_num, L15, u, wsb, c + 1 + 1 + 1 + 3, hSt15, hLW2, by omega⟩
            case measure => simp [intOf]; omega
          · have hjM : j = M := by omega
            subst hjM
            have hlt1 : ¬ (j : Int) < j := by omega
            clear hlt hj
            go_wp2_with fail
            refine (pick7_ _ _ _ q0 q1 (by omega) (by omega)).mono ?_
            rintro e w8 ⟨rfl, rfl⟩
            rw [← HQ.out]
            go_upto_if 131 with (fail)
            have C7 := hSt.box.cells
            go_cut [] (fun wx => LateB w wx gB gm gP gX n t v0 gv vt vg 2 j)
            case first =>
              by_cases hQ1 : Q = 0
              · subst hQ1
                have hSt : LateSt w wr L gB gm gP gX n t vt vg ⟨gv, 1, 1, v0, 1, u, 0⟩ ws c := hSt
                obtain ⟨u', ws', K2, hLW2⟩ := late_second (gv := gv) (u := u) hLW
                have HK2 := Lib.hid K2
                clear K2
                go_wp2_with fail
                refine ((pstep_ _ vt vg _ hSt.pair hSt.mch (by decide) hSt.bs.mem (by omega) hLW.pl.words).mono fun e w' h => h.to (HK2.out c) rfl rfl).mono ?_
                rintro e w9 ⟨rfl, hL9⟩
                obtain ⟨L9, hSt9⟩ := hSt.step hL9 rfl
                go_wp2_with fail
                go_meet
                have hcc : c ≤ 200 + 6 * j + 1 ∧ 1 ≤ 2 := hcc
                exact ⟨L9, u', ws', c + 1, hSt9, hLW2, by omega⟩
              · have hQ2 : (Q == 0) = false := by simpa using hQ1
                go_wp2_with fail
                go_meet
                have e : Q = 1 := by omega
                subst e
                exact ⟨L, u, ws, c, hSt, hLW, hcc⟩
            case rest =>
              clear hSt hLW hcc C7
              obtain ⟨L, u, ws, c, hSt, hLW, hcc⟩ := hcut
              have hl2 : ws.length = N := by have := hLW.pl.len; have := HN.out; omega
              have HL2 := Lib.hid hl2
              clear hl2
              go_wp2_with fail
              refine (Words_at _ hSt.bs.mem N HL2.out (by omega) (by omega)).mono ?_
              rintro e w16 ⟨g16, c16, rfl, hO16, hf16⟩
              have hSt16 := hSt.re hf16 0
              have C16 := hSt16.box.cells
              clear hSt hf16
              go_wp2_with fail
              by_cases hj0 : j = 0
              · subst hj0
                obtain ⟨ws', K3⟩ := late_yes (gv := gv) (u := u) hLW
                refine ((pstep_ _ vt vg _ hSt16.pair hSt16.mch (by decide) hSt16.bs.mem (by omega) hLW.pl.words).mono fun e w' h => h.to (K3 c) rfl rfl).mono ?_
                clear K3
                rintro e w17 ⟨rfl, hL17⟩
                obtain ⟨L17, hSt17⟩ := hSt16.step hL17 rfl
                go_wp2_with fail
                go_ret
                exact ⟨rfl, hSt17.bs.fr⟩
              · have K3 := late_no (gv := gv) (u := u) hLW HV.out (by omega) hM3
                refine ((pstep_ _ vt vg _ hSt16.pair hSt16.mch (by decide) hSt16.bs.mem (by omega) hLW.pl.words).mono fun e w' h => h.to (K3 c) rfl rfl).mono ?_
                clear K3
                rintro e w17 ⟨rfl, hL17⟩
                have hO17 := hO16.keep hL17.fr (fun i hi h => by simp only [New] at hi; rw [re, if_neg (by omega)] at h; omega)
                obtain ⟨L17, hSt17⟩ := hSt16.step hL17 rfl
                have hj1 : ((j : Int) == 0) = false := by simp; omega
                go_wp2_with fail
                refine (Words_at _ hSt17.bs.mem N HL2.out (by omega) (by omega)).mono ?_
                rintro e w18 ⟨g18, c18, rfl, hO18, hf18⟩
                go_wp2_with fail
                refine (Same64 _ _ _ _ _ ws hO18.rd (hO17.keepNo hf18).rd).mono ?_
                rintro e w19 ⟨rfl, hf19⟩
                go_wp2_with fail
                go_ret
                exact ⟨rfl, (hSt17.bs.fr.then hf18).then hf19⟩
end Go.Proofs.Ytfglpigoljclbaa.H
