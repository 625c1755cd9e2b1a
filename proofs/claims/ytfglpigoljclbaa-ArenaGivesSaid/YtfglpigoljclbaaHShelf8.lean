/- Law 8's ArenaShelf: a shelf's nodes are taken from its end. -/
import Derived.Test.YtfglpigoljclbaaHTries8
set_option linter.unusedVariables false
set_option linter.unusedSimpArgs false
namespace Go.Proofs.Ytfglpigoljclbaa.H
open Go.RowKit
attribute [local go_sem ↓] Go.wp_at_zero Go.wp_at_succ

theorem astep_pop {n s h : Int} {A : Arn} {ws : List Int} {c : Nat} (hg : A.give = false) (hst : A.st = 0) (hp : 0 < A.shelf.length) :
    astep n s h A ws c = ({ A with shelf := A.shelf.take (A.shelf.length - 1), st := 1, i := A.shelf.getD (A.shelf.length - 1) 0 }, ws, c) := by
  unfold astep
  rw [if_neg (by rw [hg]; decide), if_pos ⟨hp, hst⟩]

theorem Rd.take {w : World} {S : Nat → Prop} {A : Option Addr} {N c : Nat} {xs : List Int} {k : IntKind} (h : Rd w S (.slice A N c) (us k xs)) (j : Nat) (hj : j ≤ xs.length) : Rd w S (.slice A j c) (us k (xs.take j)) := by
  obtain ⟨A', c', hv, hl, hm, hc⟩ := h
  rw [us_len] at hv hl hc
  simp only [Value.slice.injEq] at hv
  obtain ⟨rfl, rfl, rfl⟩ := hv
  have e : (us k (xs.take j)).length = j := by rw [us_len, List.length_take]; omega
  refine ⟨A, c, by rw [e], by rw [e]; omega, hm, fun hp => ?_⟩
  rw [e] at hp ⊢
  obtain ⟨g, o, hA, hS, hcc⟩ := hc (by omega)
  refine ⟨g, o, hA, hS, fun i hi => ?_⟩
  rw [hcc i (by omega), us_get _ _ _ (by omega), us_get _ _ _ (by rw [List.length_take]; omega)]
  congr 2
  rw [List.getD_eq_getElem?_getD, List.getD_eq_getElem?_getD, List.getElem?_take_of_lt hi]

theorem getD_take {xs : List Int} (hx : ∀ j, 0 ≤ xs.getD j 0 ∧ xs.getD j 0 < 4294967296) (K : Nat) : ∀ j, 0 ≤ (xs.take K).getD j 0 ∧ (xs.take K).getD j 0 < 4294967296 := fun j => by
  by_cases h : j < K
  · rw [List.getD_eq_getElem?_getD, List.getElem?_take_of_lt h, ← List.getD_eq_getElem?_getD]; exact hx j
  · rw [List.getD_eq_getElem?_getD, List.getElem?_eq_none (by rw [List.length_take]; omega)]; exact ⟨by decide, by decide⟩

theorem u32_at {xs : List Int} (h : ∀ x ∈ xs, (Lit.int .u32 x).wf = true) (j : Nat) : 0 ≤ xs.getD j 0 ∧ xs.getD j 0 < 4294967296 := by
  by_cases hj : j < xs.length
  · rw [List.getD_eq_getElem?_getD, List.getElem?_eq_getElem hj]
    exact u32_of (h _ (List.getElem_mem hj))
  · rw [List.getD_eq_getElem?_getD, List.getElem?_eq_none (by omega)]
    exact ⟨by decide, by decide⟩

/-- The machine of a shelf of j + 1 nodes takes the last one. -/
theorem pop_at {n b : Int} {ws : List Int} {c j : Nat} {xs : List Int} (hj : j < xs.length) : ∃ A' : Arn, astep n 0 0 (jobA false b 0 (xs.take (j + 1))) ws c = (A', ws, c) ∧ A'.st = 1 ∧ A'.i = xs.getD j 0 ∧ A'.shelf = xs.take j := by
  have hl : (xs.take (j + 1)).length = j + 1 := by rw [List.length_take]; omega
  refine ⟨_, astep_pop rfl rfl (by show 0 < (xs.take (j + 1)).length; omega), rfl, ?_, ?_⟩
  · show (xs.take (j + 1)).getD ((xs.take (j + 1)).length - 1) 0 = _
    rw [hl, Nat.add_sub_cancel, List.getD_eq_getElem?_getD, List.getD_eq_getElem?_getD, List.getElem?_take_of_lt (by omega)]
  · show (xs.take (j + 1)).take ((xs.take (j + 1)).length - 1) = _
    rw [hl, Nat.add_sub_cancel, List.take_take, Nat.min_eq_left (by omega)]

/-- Ahead of a round. -/
def Sh8 (w wr : World) (gB gm : Nat) (n : Int) (l : List Int) (v : Value) (ys : List Int) : Prop :=
  ∃ L ws, Bs w wr L gB gm n 3 ws 0 ∧ Fre n l ws ∧ Rd wr (fun _ => True) v (us .u32 ys)

set_option maxRecDepth 100000 in
set_option maxHeartbeats 8000000 in
theorem ArenaShelf_ (w : World) (a b : Int) (v : Value) (xs : List Int) (ha : I64 a) (hb : I64 b) (hv : Rd w (fun _ => True) v (us .u32 xs)) (hx : ∀ j, 0 ≤ xs.getD j 0 ∧ xs.getD j 0 < 4294967296) :
    Calls Try.prog 11 #[.int .i64 a, v, .int .i64 b] w fun e w' => e = .returned (.bool true) ∧ Fr No w w' := by
  obtain ⟨a0, a1⟩ := ha
  obtain ⟨b0, b1⟩ := hb
  have HV := Lib.hid hv
  have HX := Lib.hid hx
  obtain ⟨A1, c1, rfl, hlc, hcm⟩ := hv.slice
  clear hv hx
  go_enter Try.func11, Try.ntmps11
  go_wp2_with fail
  refine (shown8_ _).mono ?_
  rintro e w1 ⟨rfl, hf1⟩
  go_wp2_with fail
  refine (config8_ _ _ _ _ _ a0 a1 (by omega) (by omega) (by omega) (by omega)).mono ?_
  rintro e w2 ⟨rfl, hf2⟩
  rw [pick00.1, pick00.2]
  have hn := pickV_bd a 64 (by omega)
  obtain ⟨n, hnn⟩ : ∃ n, n = 1 + pickV a 64 := ⟨_, rfl⟩
  rw [← hnn]
  have hn1 : 1 ≤ n := by omega
  have hn2 : n ≤ 64 := by omega
  clear hnn hn
  have hfw2 := hf1.then hf2
  obtain ⟨gB, hgB⟩ : ∃ gB, gB = w2.heap.size := ⟨_, rfl⟩
  have hB2 := blk_at w2 (cs := #[.int .i64 n, .int .i64 0, .int .i64 0, .int .u32 3]) (t := 25) hgB
  clear hf1 hf2
  obtain ⟨N, hN⟩ : ∃ N : Nat, 2 + 2 * n + 0 + 0 = (N : Int) := ⟨(2 + 2 * n).toNat, by omega⟩
  have ok : cfgOk n 0 0 := by unfold cfgOk; omega
  have HN := Lib.hid hN
  have hN4 : 4 ≤ N := by omega
  have hN5 : N ≤ 130 := by omega
  clear hN
  go_wp2_with fail
  refine (Fresh_N _ n 0 0 3 N HN.out ok (by omega) (by omega)).mono ?_
  rintro e w3 ⟨gw, cw, rfl, hW3, hf3⟩
  rw [← hgB]
  have hgB0 : w.heap.size ≤ gB := by have := hfw2.size; omega
  have hB3 := hf3.keepNo hB2
  have hfw3 := (hfw2.alloc _).then hf3
  have hal := fre_0 (t := 3) hn1 hn2 (by omega) (by omega)
  have hfl : (freshL n 0 0 3).length = N := by rw [freshL, tab_len]; have := HN.out; omega
  generalize freshL n 0 0 3 = W0 at hW3 hal hfl
  clear hfw2 hB2 hf3 hgB
  by_cases h50 : 50 < xs.length
  · have h50i : (50 : Int) < xs.length := by omega
    go_wp2_with fail
    go_ret
    exact ⟨rfl, hfw3⟩
  have h50i : ¬ (50 : Int) < xs.length := by omega
  go_wp2_with fail
  refine (New_yes _ _ W0 hW3.rd (by omega)).mono ?_
  rintro e w4 ⟨gm, rfl, hM4, hf4⟩
  have hM4 := hM4.born (fun _ => 0) 1
  have hB4 := hf4.keepNo hB3
  have hBs : Bs w w4 (re (fun _ => 0) w3 1) gB gm n 3 W0 0 :=
    ⟨hfw3.then hf4, (Old.zero w).ext (ext_re _ _ _) hfw3.size, hB4, by rw [re, if_pos hB3.lt], hM4⟩
  clear hM4 hf4 hB3 hfw3 hW3 hfl hB4
  have hR4 := HV.out.keepNo hBs.fr
  go_upto_region 10 with (at_builtin; go_loud (refine wp_append_rd (N := 0) (S := New w4.heap.size) rfl _ _ 41 23 (.int .u32 0) 4 rfl Try.underlying41 info23 rfl (Own.lit _ (n := 0) (by exact Nat.le_refl _) (blk_new _ _ _) rfl (by decide)) rfl (hR4.alloc _) rfl (us_one _ _) (by rw [us_len]; simp only [maxLen]; omega) (by rw [us_len]; omega) ?_; intro v5 w5 hO5 hF5))
  rw [us_len, Nat.zero_add] at hO5
  have hR5 : Rd w5 (fun _ => True) v5 (us .u32 xs) := by
    have := hO5.rd.wide (S' := fun _ => True) (fun _ _ _ => trivial)
    simpa using this
  have hf5 : Fr No w4 w5 := ((Fr.refl No w4).alloc _).trans hF5 (fun i hi h => by simp [Row, Value.ownBlock] at h; omega)
  obtain ⟨A5, c5, rfl, hl5, _⟩ := hR5.slice
  have hInv : Sh8 w w5 gB gm n (upFrom 1 n.toNat) (.slice A5 xs.length c5) (xs.take xs.length) := ⟨_, _, hBs.no hf5, hal, by rw [List.take_length]; exact hR5⟩
  clear hO5 hR5 hF5 hf5 hR4 hBs hal
  go_upto_region 11 with (fail)
  go_loopw [13, 14] (fun v13 v14 wr => ∃ K : Nat, ∃ A c, K ≤ xs.length ∧ v13 = .slice A K c ∧ v14 = .int .i64 ((K : Int) - 1) ∧ Sh8 w wr gB gm n (upFrom 1 n.toNat) (.slice A K c) (xs.take K)) (fun _ v14 _ => (intOf v14 + 1).toNat)
  case atStart => exact ⟨xs.length, A5, c5, Nat.le_refl _, rfl, rfl, hInv⟩
  case round =>
    clear hInv hl5
    obtain ⟨K, A, c, hK, rfl, rfl, L, ws, hBs, hal, hR⟩ := hrel
    have C := hBs.cfg.cells
    match K, hK, hR with
    | 0, hK, hR =>
      have hR' : Rd wr (fun _ => True) (.slice A 0 c) (us .u32 []) := hR
      obtain ⟨qs, wss, ws1, e0, hR1, e1, e3, hal1⟩ := Fre.up (k := 0) hal (by omega) (jobA false b 0 []) rfl rfl rfl rfl
      go_wp2_with fail
      refine (madeTake _ b 0 _ [] hBs hR' (by simp) b1 b0 (fun j => by simp)).mono ?_
      rintro e w5 ⟨g, r, rfl, L5, hBs5, hA5, _, hf5⟩
      rw [← e0] at hA5
      have hv5 : APairOf (qs 0).give g (.pointer (some ⟨g, 0, none⟩)) (.pointer none) := .inr ⟨by rw [e0]; rfl, rfl, rfl⟩
      obtain ⟨wp, hwp⟩ : ∃ wp, wp = w5.alloc (.cells #[.pointer (some ⟨g, 0, none⟩), .pointer none, .pointer (some ⟨r, 0, none⟩)] 90) := ⟨_, rfl⟩
      have hf6 : Fr No w5 wp := by rw [hwp]; exact (Fr.refl No w5).alloc _
      have hBs6 := hBs5.no hf6
      have hA6 := hA5.no hf6
      have hM6 := hBs6.mem
      rw [← e1] at hM6
      have HE := Lib.hid (And.intro e0 (And.intro e1 (And.intro e3 hwp)))
      clear e0 e1 e3 hwp C hf6
      go_wp2_with fail
      rw [← HE.out.2.2.2]
      refine (ends8p _ 3 qs wss 1 1 _ _ _ hv5 hA6 hM6 (by omega) (by omega) (by omega) (by simpa using hR1) (by decide) (by decide)).mono ?_
      rintro e w7 ⟨rfl, hL7⟩
      rw [HE.out.2.1] at hM6
      obtain ⟨L7, hBs7⟩ := hBs6.alft hL7
      have hfin := hBs7.fr
      clear hL7 hv5 hA6 hM6 hBs6 hA5 hBs5 hf5 hBs7
      go_wp2_with fail
      go_ret
      exact ⟨rfl, hfin⟩
    | j + 1, hK, hR =>
      rw [show (((j + 1 : Nat) : Int) - 1) = (j : Int) by omega]
      have hj0 : (0 : Int) ≤ (j : Int) := by omega
      have hj1 : (j : Int) < xs.length := by omega
      obtain ⟨A', hgo, s1, i1, sh1⟩ := pop_at (n := n) (b := b) (ws := ws) (c := 0) hK
      have hv0 := HV.out.keepNo hBs.fr
      obtain ⟨gs, os, cs, hvs, _, _, ls, hcs⟩ := hv0.at (by omega)
      cases hvs
      go_wp2_with fail
      refine (madeTake _ b 0 _ (xs.take (j + 1)) hBs hR (by rw [List.length_take]; omega) b1 b0 (getD_take HX.out _)).mono ?_
      rintro e w5 ⟨g, r, rfl, L5, hBs5, hA5, _, hf5⟩
      obtain ⟨wp, hwp⟩ : ∃ wp, wp = w5.alloc (.cells #[.pointer (some ⟨g, 0, none⟩), .pointer none, .pointer (some ⟨r, 0, none⟩)] 90) := ⟨_, rfl⟩
      have hf6 : Fr No w5 wp := by rw [hwp]; exact (Fr.refl No w5).alloc _
      have hBs6 := hBs5.no hf6
      have hA6 := hA5.no hf6
      have HW := Lib.hid hwp
      have K8 := Lib.hid ((pstep8Take (kS := 4) wp _ (.pointer (some ⟨r, 0, none⟩)) rfl hA6 (by decide) (by decide) (by decide) (by decide) (by decide) (by decide) hBs6.mem (by omega) hal.pl.words (by show (xs.take (j + 1)).length ≤ _; rw [List.length_take]; omega)).mono fun e w' h => h.to hgo)
      rw [s1, i1] at K8
      clear hwp hf6 C hf5 hA5 hBs5 hgo hA6 hR hcs hv0 hBs
      go_wp2_with fail
      rw [← HW.out]
      refine K8.out.mono ?_
      rintro e w7 ⟨v7, rfl, hL7⟩
      obtain ⟨L7, hBs7, _, hO7, _, _⟩ := hBs6.aleft hL7
      rw [sh1] at hO7
      have hl7 : (xs.take j).length = j := by rw [List.length_take]; omega
      rw [hl7] at hO7
      obtain ⟨A7, c7, rfl, _, _⟩ := hO7.slice
      have hv7 := HV.out.keepNo hBs7.fr
      obtain ⟨gs', os', cs', hvs', _, _, ls7, hcs7⟩ := hv7.at (by omega)
      cases hvs'
      have ck := hcs7 j (by omega)
      obtain ⟨y, hy⟩ : ∃ y, y = xs.getD j 0 := ⟨_, rfl⟩
      rw [← hy] at ck
      have HO7 := Lib.hid hO7
      have hM7 := hBs7.mem
      have hT7 := hv7.take j (by omega)
      rw [← hy]
      clear hL7 hBs6 K8 hcs7 hO7 hv7 hl7
      go_wp2_with fail
      refine (Same32 _ _ _ _ _ (xs.take j) HO7.out.rd hT7).mono ?_
      rintro e w8 ⟨rfl, hf8⟩
      have hBs8 := hBs7.no hf8
      have hM8 := hBs8.mem
      go_wp2_with fail
      refine (Count_ _ hM8).mono ?_
      rintro e w9 ⟨rfl, rfl⟩
      go_wp2_with fail
      go_roundw
      case rel => exact ⟨j, A7, c7, by omega, rfl, by go_num, L7, ws, hBs8, hal, ((HO7.out.rd.keepNo hf8).wide fun _ _ _ => trivial)⟩
      case measure => simp [intOf]
end Go.Proofs.Ytfglpigoljclbaa.H
