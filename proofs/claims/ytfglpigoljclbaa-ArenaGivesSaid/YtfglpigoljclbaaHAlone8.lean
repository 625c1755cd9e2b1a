/- Law 8's ArenaAlone. -/
import Derived.Test.YtfglpigoljclbaaHMT8
import Derived.Deep.RegionWith
import Derived.BigQuiet
set_option linter.unusedVariables false
set_option linter.unusedSimpArgs false
namespace Go.Proofs.Ytfglpigoljclbaa.H
open Go.RowKit
attribute [local go_sem ↓] Go.wp_at_zero Go.wp_at_succ

/-- What a law of chapter 8 holds: a config, a memory, a free list. -/
def A8 (w wr : World) (gB gm : Nat) (n t : Int) (l : List Int) (c : Nat) : Prop := ∃ L ws, Bs w wr L gB gm n t ws c ∧ Fre n l ws

set_option maxRecDepth 100000 in
set_option maxHeartbeats 8000000 in
theorem ArenaAlone_ (w : World) (a t b : Int) (ha : I64 a) (ht0 : 0 ≤ t) (ht1 : t < 4294967296) (hb : I64 b) :
    Calls Try.prog 14 #[.int .i64 a, .int .u32 t, .int .i64 b] w fun e w' => e = .returned (.bool true) ∧ Fr No w w' := by
  obtain ⟨a0, a1⟩ := ha
  obtain ⟨b0, b1⟩ := hb
  go_enter Try.func14, Try.ntmps14
  go_wp2_with fail
  refine (shown8_ _).mono ?_
  rintro e w1 ⟨rfl, hf1⟩
  go_wp2_with fail
  refine (config8_ _ _ _ _ _ a0 a1 (by omega) (by omega) (by omega) (by omega)).mono ?_
  rintro e w2 ⟨rfl, hf2⟩
  rw [pick00.1, pick00.2]
  have hn := pickV_bd a 64 (by omega)
  obtain ⟨n, hnn⟩ : ∃ n, n = 1 + pickV a 64 := ⟨_, rfl⟩
  rw [← hnn]
  have hn1 : 1 ≤ n := by omega
  have hn2 : n ≤ 64 := by omega
  clear hnn hn
  have hfw2 := hf1.then hf2
  obtain ⟨gB, hgB⟩ : ∃ gB, gB = w2.heap.size := ⟨_, rfl⟩
  have hB2 := blk_at w2 (cs := #[.int .i64 n, .int .i64 0, .int .i64 0, .int .u32 t]) (t := 25) hgB
  clear hf1 hf2
  obtain ⟨N, hN⟩ : ∃ N : Nat, 2 + 2 * n + 0 + 0 = (N : Int) := ⟨(2 + 2 * n).toNat, by omega⟩
  have ok : cfgOk n 0 0 := by unfold cfgOk; omega
  have HN := Lib.hid hN
  have hN4 : 4 ≤ N := by omega
  have hN5 : N ≤ 130 := by omega
  clear hN
  go_wp2_with fail
  refine (Fresh_N _ n 0 0 t N HN.out ok ht0 ht1).mono ?_
  rintro e w3 ⟨gw, cw, rfl, hW3, hf3⟩
  rw [← hgB]
  have hgB0 : w.heap.size ≤ gB := by have := hfw2.size; omega
  have hB3 := hf3.keepNo hB2
  have hfw3 := (hfw2.alloc _).then hf3
  have hal := fre_0 hn1 hn2 ht0 ht1
  have hfl : (freshL n 0 0 t).length = N := by rw [freshL, tab_len]; have := HN.out; omega
  generalize freshL n 0 0 t = W0 at hW3 hal hfl
  clear hfw2 hB2 hf3 hgB
  go_wp2_with fail
  refine (New_yes _ _ W0 hW3.rd (by omega)).mono ?_
  rintro e w4 ⟨gm, rfl, hM4, hf4⟩
  have hM4 := hM4.born (fun _ => 0) 1
  have hB4 := hf4.keepNo hB3
  have hBs : Bs w w4 (re (fun _ => 0) w3 1) gB gm n t W0 (3 * 0) :=
    ⟨hfw3.then hf4, (Old.zero w).ext (ext_re _ _ _) hfw3.size, hB4, by rw [re, if_pos hB3.lt], hM4⟩
  have hInv : A8 w w4 gB gm n t (upFrom ((0 : Nat) + 1) (n.toNat - 0)) (3 * 0) := ⟨_, _, hBs, hal⟩
  clear hM4 hf4 hB3 hfw3 hW3 hBs hal hfl hB4
  go_wp2_with fail
  go_loopw [13] (fun v13 wr => ∃ k : Nat, (k : Int) ≤ n ∧ v13 = .int .i64 ((k : Int) + 1) ∧ A8 w wr gB gm n t (upFrom ((k : Nat) + 1) (n.toNat - k)) (3 * k)) (fun v13 _ => 65 - (intOf v13).toNat)
  case atStart => exact ⟨0, by omega, rfl, hInv⟩
  case round =>
    clear hInv
    obtain ⟨k, hk, rfl, L, ws, hBs, hal⟩ := hrel
    have C := hBs.cfg.cells
    by_cases hlt : (k : Int) < n
    · have hk1 : (k : Int) + 1 ≤ n := by omega
      obtain ⟨qs, wss, ws1, e0, hR, e1, e3, hal1⟩ := hal.up hlt (jobA false b 0 []) rfl rfl rfl rfl
      go_wp2_with fail
      refine (madeTake _ b 0 (.slice none 0 0) [] hBs (Rd.nil _ No _) (by simp) b1 b0 (fun j => by simp)).mono ?_
      rintro e w5 ⟨g, r, rfl, L5, hBs5, hA5, _, hf5⟩
      rw [← e0] at hA5
      clear C
      have w6a : IntKind.u32.wrap ((k : Int) + 1) = (k : Int) + 1 := IntWalk.u32_in _ (by omega)
      have hv5 : APairOf (qs 0).give g (.pointer (some ⟨g, 0, none⟩)) (.pointer none) := .inr ⟨by rw [e0]; rfl, rfl, rfl⟩
      obtain ⟨wp, hwp⟩ : ∃ wp, wp = w5.alloc (.cells #[.pointer (some ⟨g, 0, none⟩), .pointer none, .pointer (some ⟨r, 0, none⟩)] 90) := ⟨_, rfl⟩
      have hf6 : Fr No w5 wp := by rw [hwp]; exact (Fr.refl No w5).alloc _
      have hBs6 := hBs5.no hf6
      have hA6 := hA5.no hf6
      have hM6 := hBs6.mem
      rw [← e1] at hM6
      clear hf6
      have HE := Lib.hid (And.intro e0 (And.intro e1 (And.intro e3 hwp)))
      clear e0 e1 e3 hwp
      go_wp2_with fail
      rw [← HE.out.2.2.2]
      refine (ends8p _ 3 qs wss 1 ((k : Int) + 1) _ _ _ hv5 hA6 hM6 (by omega) (by omega) (by omega) hR (by decide) (by decide)).mono ?_
      rintro e w7 ⟨rfl, hL7⟩
      rw [HE.out.2.2.1] at hL7
      rw [HE.out.2.1] at hM6
      obtain ⟨L7, hBs7⟩ := hBs6.alft hL7
      clear hL7 hv5 hA6 hM6 hBs6 hA5 hBs5 hf5
      go_wp2_with fail
      go_roundw
      case rel => exact ⟨k + 1, by omega, by go_num, L7, ws1, hBs7, hal1⟩
      case measure => simp [intOf]; omega
    · have hkn : (k : Int) = n := by omega
      have hk1 : ¬ (k : Int) + 1 ≤ n := by omega
      rw [show n.toNat - k = 0 by omega, show (3 * k : Nat) = 3 * n.toNat by omega] at *
      have hal0 : Fre n [] ws := hal
      obtain ⟨qs, wss, e0, hR, e1, e3⟩ := hal0.none (jobA false b 0 []) rfl rfl rfl rfl
      have hnn : 3 * n.toNat ≤ 192 := by omega
      clear hkn hk hal hlt
      go_wp2_with fail
      refine (madeTake _ b 0 (.slice none 0 0) [] hBs (Rd.nil _ No _) (by simp) b1 b0 (fun j => by simp)).mono ?_
      rintro e w5 ⟨g, r, rfl, L5, hBs5, hA5, _, hf5⟩
      rw [← e0] at hA5
      clear C hk1
      have hv5 : APairOf (qs 0).give g (.pointer (some ⟨g, 0, none⟩)) (.pointer none) := .inr ⟨by rw [e0]; rfl, rfl, rfl⟩
      obtain ⟨wp, hwp⟩ : ∃ wp, wp = w5.alloc (.cells #[.pointer (some ⟨g, 0, none⟩), .pointer none, .pointer (some ⟨r, 0, none⟩)] 90) := ⟨_, rfl⟩
      have hf6 : Fr No w5 wp := by rw [hwp]; exact (Fr.refl No w5).alloc _
      have hBs6 := hBs5.no hf6
      have hA6 := hA5.no hf6
      have hM6 := hBs6.mem
      rw [← e1] at hM6
      clear hf6
      have HE := Lib.hid (And.intro e0 (And.intro e1 (And.intro e3 hwp)))
      clear e0 e1 e3 hwp
      go_wp2_with fail
      rw [← HE.out.2.2.2]
      refine (ends8p _ 1 qs wss 2 0 _ _ _ hv5 hA6 hM6 (by omega) (by omega) (by omega) hR (by decide) (by decide)).mono ?_
      rintro e w7 ⟨rfl, hL7⟩
      rw [HE.out.2.2.1] at hL7
      rw [HE.out.2.1] at hM6
      obtain ⟨L7, hBs7⟩ := hBs6.alft hL7
      have hInv2 : A8 w w7 gB gm n t (downFrom 0) (3 * n.toNat + 1 + 3 * 0) := ⟨L7, ws, hBs7, hal0⟩
      clear hL7 hv5 hA6 hM6 hBs6 hA5 hBs5 hf5 hBs7 hal0 HE hR hBs
      go_wp2_with fail
      go_loopw [16] (fun v16 wr => ∃ k : Nat, (k : Int) ≤ n ∧ v16 = .int .i64 ((k : Int) + 1) ∧ A8 w wr gB gm n t (downFrom k) (3 * n.toNat + 1 + 3 * k)) (fun v16 _ => 65 - (intOf v16).toNat)
      case atStart => exact ⟨0, by omega, rfl, hInv2⟩
      case round =>
        clear hInv2
        obtain ⟨k, hk, rfl, L, ws, hBs, hal⟩ := hrel
        have C := hBs.cfg.cells
        by_cases hlt : (k : Int) < n
        · have hk1 : (k : Int) + 1 ≤ n := by omega
          obtain ⟨qs, wss, ws1, e0, hR, e1, e3, hal1⟩ := hal.down hlt (jobA true b ((k : Int) + 1) []) rfl (by show ((k : Int) + 1) % 4294967296 = _; omega) rfl rfl rfl
          go_wp2_with fail
          refine (madeGive _ b ((k : Int) + 1) (.slice none 0 0) [] hBs (Rd.nil _ No _) (by simp) b1 b0 (fun j => by simp)).mono ?_
          rintro e w5 ⟨g, r, rfl, L5, hBs5, hA5, _, hf5⟩
          rw [← e0] at hA5
          clear C
          have w6a : IntKind.u32.wrap ((k : Int) + 1) = (k : Int) + 1 := IntWalk.u32_in _ (by omega)
          have hv5 : APairOf (qs 0).give g (.pointer none) (.pointer (some ⟨g, 0, none⟩)) := .inl ⟨by rw [e0]; rfl, rfl, rfl⟩
          obtain ⟨wp, hwp⟩ : ∃ wp, wp = w5.alloc (.cells #[.pointer none, .pointer (some ⟨g, 0, none⟩), .pointer (some ⟨r, 0, none⟩)] 90) := ⟨_, rfl⟩
          have hf6 : Fr No w5 wp := by rw [hwp]; exact (Fr.refl No w5).alloc _
          have hBs6 := hBs5.no hf6
          have hA6 := hA5.no hf6
          have hM6 := hBs6.mem
          rw [← e1] at hM6
          clear hf6
          have HE := Lib.hid (And.intro e0 (And.intro e1 (And.intro e3 hwp)))
          clear e0 e1 e3 hwp
          go_wp2_with fail
          rw [← HE.out.2.2.2]
          refine (ends8p _ 3 qs wss 1 ((k : Int) + 1) _ _ _ hv5 hA6 hM6 (by omega) (by omega) (by omega) hR (by decide) (by decide)).mono ?_
          rintro e w7 ⟨rfl, hL7⟩
          rw [HE.out.2.2.1] at hL7
          rw [HE.out.2.1] at hM6
          obtain ⟨L7, hBs7⟩ := hBs6.alft hL7
          clear hL7 hv5 hA6 hM6 hBs6 hA5 hBs5 hf5
          go_wp2_with fail
          go_roundw
          case rel => exact ⟨k + 1, by omega, by go_num, L7, ws1, hBs7, hal1⟩
          case measure => simp [intOf]; omega
        · have hkn : (k : Int) = n := by omega
          have hk1 : ¬ (k : Int) + 1 ≤ n := by omega
          have hl1 : ws.length = N := by have := hal.pl.len; have := HN.out; omega
          have hM6 := hBs.mem
          have hB6 := hBs.cfg
          have R1 := hal.chain (by rw [downFrom_len]; omega)
          have P1 := hal.pl
          obtain ⟨x, hxe⟩ : ∃ x, x = ws.getD 1 0 := ⟨_, rfl⟩
          have hx := P1.words 1
          rw [← hxe] at hx R1
          obtain ⟨x0, x1⟩ := hx
          have HX := Lib.hid hxe
          have HL1 := Lib.hid hl1
          obtain ⟨l, hl⟩ : ∃ l, l = downFrom k := ⟨_, rfl⟩
          have hlm : (l.length : Int) = n := by rw [hl, downFrom_len]; exact hkn
          have hl0 : l.getD 0 0 = n := by
            rw [hl]
            match k, hkn with
            | 0, hkn => omega
            | k + 1, hkn => exact hkn
          rw [← hl] at R1
          have HLM := Lib.hid hlm
          have HL0 := Lib.hid hl0
          have q0 := C 0
          have q1 := C 1
          have q2 := C 2
          have q3 := C 3
          simp at q0 q1 q2 q3
          have lB := hB6.lt
          clear C hxe hl1 hl hlm hl0 hlt hkn
          go_wp2_with fail
          go_cut [18, 19] (fun v18 v19 wx => ∃ A cl, v18 = .slice A l.length cl ∧ v19 = .bool true ∧ Own wx (New wr.heap.size) 23 1 (.slice A l.length cl) l.length (us .u32 l) ∧ Fr No wr wx)
          case first =>
            go_region_with
              (first | ((go_at_call 43; refine (Words_at _ hM7 N HL1.out (by omega) (by omega)).mono ?_; rintro e w8 ⟨g8, c8, rfl, hO8, hf8⟩; have hf68 := hf67.then hf8; have C8 := (hf68.keepNo hB6).cells; have z8 := hf68.size; have l8 := hO8.lt g8 rfl; have hO7 := hO7.keepNo hf8; have k7 := own_word hO7 (by omega : 1 < N) HL1.out; have k8 := own_word hO8 (by omega : 1 < N) HL1.out; rw [← HX.out] at k7 k8)) | ((go_at_call 43; refine (Words_at _ (hM6.no ((Fr.refl No wr).drew)) N HL1.out (by omega) (by omega)).mono ?_; rintro e w7 ⟨g7, c7, rfl, hO7, hf7⟩; have hf67 := ((Fr.refl No wr).drew).then hf7; have hM7 := hM6.no hf67; have C7 := (hf67.keepNo hB6).cells; have z7 := hf67.size; have l7 := hO7.lt g7 rfl; have k7 := own_word hO7 (by omega : 1 < N) HL1.out; rw [← HX.out] at k7)) | ((go_at_call 31; (first | (with_reducible refine (Chain_at _ n t x N P1 HL1.out hO7 x0 x1 _ R1).mono ?_) | (with_reducible refine (Chain_at _ n t x N P1 HL1.out hO8 x0 x1 _ R1).mono ?_)); rintro e w9 ⟨A9, c9, rfl, hO9, hf9⟩)))
            all_goals
              go_wp2_with fail
              go_meet
              exact ⟨A9, c9, rfl, rfl, hO9.wide (fun i hi _ => by simp only [New] at *; omega), hf68.then hf9⟩
          case rest =>
            obtain ⟨A9, c9, rfl, rfl, hO9, hf9⟩ := hcut
            have hBs9 := hBs.no hf9
            have hB9 := hBs9.cfg
            have C9 := hB9.cells
            have hlen0 : 0 < l.length := by have := HLM.out; omega
            obtain ⟨g9, c9', hv9, _, _, _, _, _⟩ := hO9.form hlen0
            cases hv9
            have ck := own_node hO9 hlen0 rfl
            rw [HL0.out] at ck
            have hlc : ((l.length : Int) == n) = true := by rw [HLM.out]; simp
            have hp1 : (0 : Int) < l.length := by omega
            have w6b : IntKind.u32.wrap n = n := IntWalk.u32_in _ (by omega)
            have hfin := hBs9.fr
            clear q0 q1 q2 q3 lB hBs9 hBs hM6 hB6 hf9 hO9
            go_wp2_with fail
            go_quiet (fail)
            go_wp2_with fail
            go_ret
            exact ⟨by simp [hlc], hfin.drewN _⟩
end Go.Proofs.Ytfglpigoljclbaa.H
