/- Law 7's TaglistAlone: alone, a take takes the first one, and a give makes its node the first one. -/
import Derived.Test.YtfglpigoljclbaaHBs7
import Derived.Deep.RegionWith
set_option linter.unusedVariables false
set_option linter.unusedSimpArgs false
namespace Go.Proofs.Ytfglpigoljclbaa.H
open Go.RowKit
attribute [local go_sem ↓] Go.wp_at_zero Go.wp_at_succ

/-- Ahead of round k. -/
def AloneInv (w wr : World) (gB gm : Nat) (n t : Int) (k : Nat) : Prop := ∃ L ws, Bs w wr L gB gm n t ws (6 * k) ∧ Al n t k ws

set_option maxRecDepth 100000 in
set_option maxHeartbeats 8000000 in
theorem TaglistAlone_ (w : World) (a p t : Int) (ha : I64 a) (hp : I64 p) (ht0 : 0 ≤ t) (ht1 : t < 4294967296) :
    Calls Try.prog 8 #[.int .i64 a, .int .i64 p, .int .u32 t] w fun e w' => e = .returned (.bool true) ∧ Fr No w w' := by
  obtain ⟨a0, a1⟩ := ha
  obtain ⟨p0, p1⟩ := hp
  go_enter Try.func8, Try.ntmps8
  go_wp2_with fail
  refine (shown7_ _).mono ?_
  rintro e w1 ⟨rfl, hf1⟩
  go_wp2_with fail
  refine (config7_ _ _ _ _ _ a0 a1 (by omega) (by omega) (by omega) (by omega)).mono ?_
  rintro e w2 ⟨rfl, hf2⟩
  rw [pick00.1, pick00.2]
  have hn := pickV_bd a 64 (by omega)
  obtain ⟨n, hnn⟩ : ∃ n, n = 1 + pickV a 64 := ⟨_, rfl⟩
  rw [← hnn]
  have hn1 : 1 ≤ n := by omega
  have hn2 : n ≤ 64 := by omega
  clear hnn hn
  have hfw2 := hf1.then hf2
  obtain ⟨gB, hgB⟩ : ∃ gB, gB = w2.heap.size := ⟨_, rfl⟩
  have hB2 := blk_at w2 (cs := #[.int .i64 n, .int .i64 0, .int .i64 0, .int .u32 t]) (t := 25) hgB
  clear hf1 hf2
  obtain ⟨N, hN⟩ : ∃ N : Nat, 2 + 2 * n + 0 + 0 = (N : Int) := ⟨(2 + 2 * n).toNat, by omega⟩
  have ok : cfgOk n 0 0 := by unfold cfgOk; omega
  have HN := Lib.hid hN
  have hN4 : 4 ≤ N := by omega
  have hN5 : N ≤ 130 := by omega
  clear hN
  go_wp2_with fail
  refine (Fresh_N _ n 0 0 t N HN.out ok ht0 ht1).mono ?_
  rintro e w3 ⟨gw, cw, rfl, hW3, hf3⟩
  rw [← hgB]
  have hgB0 : w.heap.size ≤ gB := by have := hfw2.size; omega
  have hB3 := hf3.keepNo hB2
  have hfw3 := (hfw2.alloc _).then hf3
  have hal := al_0 hn1 hn2 ht0 ht1
  have hfl : (freshL n 0 0 t).length = N := by rw [freshL, tab_len]; have := HN.out; omega
  generalize freshL n 0 0 t = W0 at hW3 hal hfl
  clear hfw2 hB2 hf3 hgB
  go_wp2_with fail
  refine (New_yes _ _ W0 hW3.rd (by omega)).mono ?_
  rintro e w4 ⟨gm, rfl, hM4, hf4⟩
  have hM4 := hM4.born (fun _ => 0) 1
  have hB4 := hf4.keepNo hB3
  have hBs : Bs w w4 (re (fun _ => 0) w3 1) gB gm n t W0 (6 * 0) :=
    ⟨hfw3.then hf4, (Old.zero w).ext (ext_re _ _ _) hfw3.size, hB4, by rw [re, if_pos hB3.lt], hM4⟩
  have hInv : AloneInv w w4 gB gm n t 0 := ⟨_, _, hBs, hal⟩
  have C4 := hB4.cells
  clear hM4 hf4 hB3 hfw3 hW3 hBs hal hfl
  go_wp2_with fail
  refine (pick7_ _ _ _ p0 p1 (by omega) (by omega)).mono ?_
  rintro e w5 ⟨rfl, rfl⟩
  have hq := pickV_bd p (n + 1) (by omega)
  obtain ⟨K, hK⟩ : ∃ K : Nat, pickV p (n + 1) = (K : Int) := ⟨(pickV p (n + 1)).toNat, by omega⟩
  rw [hK] at hq ⊢
  have hKn : (K : Int) ≤ n := by omega
  clear hq hK C4 hB4
  go_wp2_with fail
  go_loopw [14] (fun v14 wr => ∃ k : Nat, k ≤ K ∧ v14 = .int .i64 ((k : Int) + 1) ∧ AloneInv w wr gB gm n t k) (fun v14 _ => 65 - (intOf v14).toNat)
  case atStart => exact ⟨0, by omega, rfl, hInv⟩
  case round =>
    clear hInv
    obtain ⟨k, hk, rfl, L, ws, hBs, hal⟩ := hrel
    have C := hBs.cfg.cells
    by_cases hlt : k < K
    · have hk1 : (k : Int) + 1 ≤ K := by omega
      obtain ⟨ws1, ws2, T1, P1, R1, T2, A2, R2⟩ := al_step hal (by omega)
      go_wp2_with fail
      refine (NewTake_ _ n 0 0 t 1).mono ?_
      rintro e w5 ⟨gt, rfl, hX5, hf5⟩
      have hX5 := hX5.born L 2
      have hBs5 := hBs.re hf5 2
      obtain ⟨ms, wss, hR, e0, e1, e3⟩ := T1.run rfl hal.pl.words P1.words
      have hM5 := hBs5.mem
      rw [← e0] at hX5
      rw [← e1] at hM5
      have hv5 : PairOf (ms 0) gt (.pointer (some ⟨gt, 0, none⟩)) (.pointer none) := .inr ⟨by rw [e0], rfl, rfl⟩
      have HE := Lib.hid (And.intro e0 (And.intro e1 e3))
      clear e0 e1 e3 T1 C
      have w6a : IntKind.u32.wrap ((k : Int) + 1) = (k : Int) + 1 := IntWalk.u32_in _ (by omega)
      go_wp2_with fail
      refine (ends7_ _ 3 ms wss ((k : Int) + 1) _ _ _ hv5 hX5 (by decide) (by decide) (by decide) hM5 (by omega) (by omega) hR).mono ?_
      rintro e w6 ⟨rfl, hL6⟩
      rw [HE.out.2.2] at hL6
      obtain ⟨L6, hBs6, _, _, _⟩ := hBs5.left (by decide) hL6
      have hB6 := hBs6.cfg
      have hM6 := hBs6.mem
      have hl1 : ws1.length = N := by have := P1.len; have := HN.out; omega
      have C6 := hB6.cells
      have q0 := C6 0
      have q1 := C6 1
      have q2 := C6 2
      have q3 := C6 3
      simp at q0 q1 q2 q3
      have lB := hB6.lt
      clear C6
      have hx := P1.words 1
      obtain ⟨x, hxe⟩ : ∃ x, x = ws1.getD 1 0 := ⟨_, rfl⟩
      rw [← hxe] at hx R1
      have HX := Lib.hid hxe
      have HL1 := Lib.hid hl1
      obtain ⟨x0, x1⟩ := hx
      clear hxe hl1
      go_wp2_with fail
      obtain ⟨l, hl⟩ : ∃ l, l = upFrom (k + 2) (n.toNat - (k + 1)) := ⟨_, rfl⟩
      have hlm : (l.length : Int) = n - ((k : Int) + 1) := by rw [hl, upFrom_len]; omega
      have hl0 : 0 < l.length → l.getD 0 0 = (k : Int) + 2 := fun hp => by
        rw [hl] at hp ⊢
        rw [upFrom_len] at hp
        rw [show n.toNat - (k + 1) = (n.toNat - (k + 2)) + 1 by omega]
        rfl
      rw [← hl] at R1
      have HLM := Lib.hid hlm
      have HL0 := Lib.hid hl0
      clear hl hlm hl0
      go_cut [16, 17] (fun v16 v17 wx => ∃ A cl, v16 = .slice A l.length cl ∧ v17 = .bool true ∧ Own wx (New w6.heap.size) 23 1 (.slice A l.length cl) l.length (us .u32 l) ∧ Fr No w6 wx)
      case first =>
        go_region_with
          (first | ((go_at_call 43; refine (Words_at _ hM7 N HL1.out (by omega) (by omega)).mono ?_; rintro e w8 ⟨g8, c8, rfl, hO8, hf8⟩; have hf68 := hf67.then hf8; have C8 := (hf68.keepNo hB6).cells; have z8 := hf68.size; have l8 := hO8.lt g8 rfl; have hO7 := hO7.keepNo hf8; have k7 := own_word hO7 (by omega : 1 < N) HL1.out; have k8 := own_word hO8 (by omega : 1 < N) HL1.out; rw [← HX.out] at k7 k8)) | ((go_at_call 43; refine (Words_at _ (hM6.no ((Fr.refl No w6).drew)) N HL1.out (by omega) (by omega)).mono ?_; rintro e w7 ⟨g7, c7, rfl, hO7, hf7⟩; have hf67 := ((Fr.refl No w6).drew).then hf7; have hM7 := hM6.no hf67; have C7 := (hf67.keepNo hB6).cells; have z7 := hf67.size; have l7 := hO7.lt g7 rfl; have k7 := own_word hO7 (by omega : 1 < N) HL1.out; rw [← HX.out] at k7)) | ((go_at_call 31; (first | (with_reducible refine (Chain_at _ n t x N P1 HL1.out hO7 x0 x1 _ R1).mono ?_) | (with_reducible refine (Chain_at _ n t x N P1 HL1.out hO8 x0 x1 _ R1).mono ?_)); rintro e w9 ⟨A9, c9, rfl, hO9, hf9⟩)))
        all_goals
          go_wp2_with fail
          go_meet
          exact ⟨A9, c9, rfl, rfl, hO9.wide (fun i hi _ => by simp only [New] at *; omega), hf68.then hf9⟩
      case rest =>
        obtain ⟨A9, c9, rfl, rfl, hO9, hf9⟩ := hcut
        have hBs9 := hBs6.no hf9
        have hB9 := hBs9.cfg
        have C9 := hB9.cells
        have hlc : ((l.length : Int) != n - ((k : Int) + 1)) = false := by rw [HLM.out]; simp
        clear q0 q1 q2 q3 lB hX5 hf5 hBs5 hM5 hL6 hv5 hBs6 hB6 hM6 hf9
        have w6b : IntKind.u32.wrap ((k : Int) + 1 + 1) = (k : Int) + 2 := by rw [show (k : Int) + 1 + 1 = (k : Int) + 2 by omega]; exact IntWalk.u32_in _ (by omega)
        go_upto_region 17 with (fail)
        go_cut [105] (fun v105 wx => v105 = .bool false ∧ wx = wc)
        case first =>
          by_cases hp : 0 < l.length
          · obtain ⟨g9, c9', hv9, _, _, _, _, _⟩ := hO9.form hp
            cases hv9
            have ck := own_node hO9 hp rfl
            rw [HL0.out hp] at ck
            have hp1 : (0 : Int) < l.length := by omega
            go_wp2_with fail
            go_meet
            exact ⟨rfl, rfl⟩
          · have hp1 : ¬ (0 : Int) < l.length := by omega
            go_wp2_with fail
            go_meet
            exact ⟨rfl, rfl⟩
        case rest =>
          obtain ⟨rfl, rfl⟩ := hcut
          clear hlc w6b hO9
          go_wp2_with fail
          refine (NewGive_ _ n 0 0 t 0 ((k : Int) + 1) (by omega) (by omega)).mono ?_
          rintro e w10 ⟨gg, rfl, hX10, hf10⟩
          have hX10 := hX10.born L6 3
          have hBs10 := hBs9.re hf10 3
          obtain ⟨ms, wss, hR, e0, e1, e3⟩ := T2.run rfl P1.words A2.pl.words
          have hM10 := hBs10.mem
          rw [show (((k + 1 : Nat) : Int)) = (k : Int) + 1 by omega] at e0 hR
          rw [← e0] at hX10
          rw [← e1] at hM10
          have hv10 : PairOf (ms 0) gg (.pointer none) (.pointer (some ⟨gg, 0, none⟩)) := .inl ⟨by rw [e0], rfl⟩
          have HE2 := Lib.hid (And.intro e0 (And.intro e1 e3))
          clear e0 e1 e3 T2 C9 hB9 hBs9
          go_wp2_with fail
          refine (ends7_ _ 3 ms wss ((k : Int) + 1) _ _ _ hv10 hX10 (by decide) (by decide) (by decide) hM10 (by omega) (by omega) hR).mono ?_
          rintro e w11 ⟨rfl, hL11⟩
          rw [HE2.out.2.2] at hL11
          obtain ⟨L11, hBs11, _, _, _⟩ := hBs10.left (by decide) hL11
          have hB11 := hBs11.cfg
          have hM11 := hBs11.mem
          have hl2 : ws2.length = N := by have := A2.pl.len; have := HN.out; omega
          have C11 := hB11.cells
          obtain ⟨y, hye⟩ : ∃ y, y = ws2.getD 0 0 := ⟨_, rfl⟩
          have hy := A2.pl.words 0
          rw [← hye] at hy R2
          have HY := Lib.hid hye
          have HL2 := Lib.hid hl2
          obtain ⟨y0, y1⟩ := hy
          clear hye hl2
          obtain ⟨l2, hl2⟩ : ∃ l2, l2 = downFrom (k + 1) := ⟨_, rfl⟩
          have hlm2 : l2.length = k + 1 := by rw [hl2, downFrom_len]
          have hl02 : l2.getD 0 0 = (k : Int) + 1 := by rw [hl2]; rfl
          rw [← hl2] at R2
          have HLM2 := Lib.hid hlm2
          have HL02 := Lib.hid hl02
          clear hl2 hlm2 hl02
          go_wp2_with fail
          go_cut [19, 20] (fun v19 v20 wx => ∃ A cl, v19 = .slice A l2.length cl ∧ v20 = .bool true ∧ Own wx (New w11.heap.size) 23 1 (.slice A l2.length cl) l2.length (us .u32 l2) ∧ Fr No w11 wx)
          case first =>
            go_region_with
              (first | ((go_at_call 43; refine (Words_at _ hM7 N HL2.out (by omega) (by omega)).mono ?_; rintro e w8 ⟨g8, c8, rfl, hO8, hf8⟩; have hf68 := hf67.then hf8; have C8 := (hf68.keepNo hB11).cells; have z8 := hf68.size; have l8 := hO8.lt g8 rfl; have hO7 := hO7.keepNo hf8; have k7 := own_word hO7 (by omega : 0 < N) HL2.out; have k8 := own_word hO8 (by omega : 0 < N) HL2.out; rw [← HY.out] at k7 k8)) | ((go_at_call 43; refine (Words_at _ (hM11.no ((Fr.refl No w11).drew)) N HL2.out (by omega) (by omega)).mono ?_; rintro e w7 ⟨g7, c7, rfl, hO7, hf7⟩; have hf67 := ((Fr.refl No w11).drew).then hf7; have hM7 := hM11.no hf67; have C7 := (hf67.keepNo hB11).cells; have z7 := hf67.size; have l7 := hO7.lt g7 rfl; have k7 := own_word hO7 (by omega : 0 < N) HL2.out; rw [← HY.out] at k7)) | ((go_at_call 31; (first | (with_reducible refine (Chain_at _ n t y N A2.pl HL2.out hO7 y0 y1 _ R2).mono ?_) | (with_reducible refine (Chain_at _ n t y N A2.pl HL2.out hO8 y0 y1 _ R2).mono ?_)); rintro e w9 ⟨A9, c9, rfl, hO9, hf9⟩)))
            all_goals
              go_wp2_with fail
              go_meet
              exact ⟨A9, c9, rfl, rfl, hO9.wide (fun i hi _ => by simp only [New] at *; omega), hf68.then hf9⟩
          case rest =>
            obtain ⟨A9, c9, rfl, rfl, hO9, hf9⟩ := hcut
            have hBs12 := hBs11.no hf9
            obtain ⟨g9, c9', hv9, _, _, _, _, _⟩ := hO9.form (by have := HLM2.out; omega)
            cases hv9
            have ck := own_node hO9 (j := 0) (by have := HLM2.out; omega) rfl
            rw [HL02.out] at ck
            have hlc : ((l2.length : Int) != (k : Int) + 1) = false := by rw [HLM2.out]; simp
            have hp1 : (0 : Int) < l2.length := by have := HLM2.out; omega
            clear hX10 hf10 hBs10 hM10 hL11 hv10 hBs11 hB11 hM11 hf9 C11 hO9
            go_wp2_with fail
            go_roundw
            case rel =>
              refine ⟨k + 1, by omega, by go_num, L11, ws2, ?_, A2⟩
              have e : 6 * k + 3 + 3 = 6 * (k + 1) := by omega
              rw [← e]
              exact hBs12
            case measure => simp [intOf]; omega
    · have hk1 : ¬ (k : Int) + 1 ≤ K := by omega
      have hkK : k = K := by omega
      have HK := Lib.hid hkK
      obtain ⟨d, hd⟩ : ∃ d, d = 6 * k := ⟨_, rfl⟩
      rw [← hd] at hBs
      have HD := Lib.hid hd
      have hM := hBs.mem
      have hl2 : ws.length = N := by have := hal.pl.len; have := HN.out; omega
      have hy := hal.pl.words 0
      have hx := hal.pl.words 1
      have ht0 := hal.tag0
      have ht1 := hal.tag1
      obtain ⟨y, hye⟩ : ∃ y, y = ws.getD 0 0 := ⟨_, rfl⟩
      obtain ⟨x, hxe⟩ : ∃ x, x = ws.getD 1 0 := ⟨_, rfl⟩
      rw [← hye] at hy ht0
      rw [← hxe] at hx ht1
      obtain ⟨y0, y1⟩ := hy
      obtain ⟨x0, x1⟩ := hx
      have HL2 := Lib.hid hl2
      have HX := Lib.hid hxe
      have HY := Lib.hid hye
      have HT0 := Lib.hid ht0
      have HT1 := Lib.hid ht1
      have hw1 : IntKind.u32.wrap (K : Int) = K := IntWalk.u32_in _ (by omega)
      have hw2 : IntKind.u32.wrap (t + K) = (t + K) % 4294967296 := by simp [IntKind.wrap, IntKind.bits, IntKind.signed]
      have hd1 : (d : Int) = 6 * (K : Int) := by rw [hd, hkK]; omega
      have HD1 := Lib.hid hd1
      clear hkK hd hl2 hxe hye ht0 ht1 hd1
      go_wp2_with fail
      refine (Words_at _ hM N HL2.out (by omega) (by omega)).mono ?_
      rintro e w7 ⟨g7, c7, rfl, hO7, hf7⟩
      have k7 := own_word hO7 (by omega : 1 < N) HL2.out
      rw [← HX.out] at k7
      have hM7 := hM.no hf7
      have hb1 : (1 : Int) < N := by omega
      clear hO7
      go_wp2_with fail
      refine (Tag_ _ _ x0 x1).mono ?_
      rintro e w8 ⟨rfl, hf8⟩
      have hM8 := hM7.no hf8
      rw [HT1.out]
      rw [HK.out]
      go_wp2_with fail
      refine (Words_at _ hM8 N HL2.out (by omega) (by omega)).mono ?_
      rintro e w9 ⟨g9, c9, rfl, hO9, hf9⟩
      have k9 := own_word hO9 (by omega : 0 < N) HL2.out
      rw [← HY.out] at k9
      have hM9 := hM8.no hf9
      have hb0 : (0 : Int) < N := by omega
      clear hO9 k7
      go_wp2_with fail
      refine (Tag_ _ _ y0 y1).mono ?_
      rintro e w10 ⟨rfl, hf10⟩
      have hM10 := hM9.no hf10
      rw [HT0.out, HK.out]
      go_wp2_with fail
      refine (Count_ _ hM10).mono ?_
      rintro e w11 ⟨rfl, rfl⟩
      rw [HD1.out]
      go_wp2_with fail
      go_ret
      exact ⟨rfl, (((hBs.fr.then hf7).then hf8).then hf9).then hf10⟩
end Go.Proofs.Ytfglpigoljclbaa.H
