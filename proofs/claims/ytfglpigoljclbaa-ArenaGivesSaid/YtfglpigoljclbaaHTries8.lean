/- Law 8's ArenaTries: every try is Contended. -/
import Derived.Test.YtfglpigoljclbaaHTry8
import Derived.OwnWalk
set_option linter.unusedVariables false
set_option linter.unusedSimpArgs false
namespace Go.Proofs.Ytfglpigoljclbaa.H
open Go.RowKit
attribute [local go_sem ↓] Go.wp_at_zero Go.wp_at_succ

/-- Ahead of a round. -/
def T8 (w wr : World) (gB gm gP g : Nat) (n t b : Int) (gv : Bool) (cs : Array Value) (r ph : Nat) : Prop :=
  ∃ L ws A c, Bs w wr L gB gm n t ws c ∧ ArnAt wr L 2 3 g n 0 0 t A ∧ Blk wr gP cs 90 ∧ L gP = 0 ∧ TrS n b gv r ph A ws ∧ c ≤ 2 * (3 * r + ph)

theorem Bs.aleft {w w' wr : World} {L : Nat → Nat} {gB gm g c c' : Nat} {n t : Int} {ws ws' : List Int} {A : Arn} {v : Value} (H : Bs w wr L gB gm n t ws c) (h : ALeft L wr 1 2 3 4 g gm n 0 0 t A ws' c' v w') :
    ∃ L', Bs w w' L' gB gm n t ws' c' ∧ ArnAt w' L' 2 3 g n 0 0 t A ∧ Own w' (Lab L' w' 4) 23 1 v A.shelf.length (us .u32 A.shelf) ∧ Ext L L' wr ∧ FrL L (fun k => k = 1 ∨ k = 2 ∨ k = 3) wr w' := by
  obtain ⟨L', hE, hX, hM, hO, hf⟩ := h
  exact ⟨L', ⟨H.old.fr H.fr hf (by omega), H.old.ext hE H.fr.size, Fr.keep hf H.cfg (by rw [H.lab]; omega), (hE gB H.cfg.lt).trans H.lab, hM⟩, hX, hO, hE, hf⟩


set_option maxRecDepth 100000 in
set_option maxHeartbeats 8000000 in
theorem ArenaTriesTake (w : World) (a t b : Int) (ha : I64 a) (ht0 : 0 ≤ t) (ht1 : t < 4294967296) (hb : I64 b) :
    Calls Try.prog 10 #[.int .i64 a, .int .u32 t, .int .i64 b, .bool false] w fun e w' => e = .returned (.bool true) ∧ Fr No w w' := by
  obtain ⟨a0, a1⟩ := ha
  obtain ⟨b0, b1⟩ := hb
  go_enter Try.func10, Try.ntmps10
  go_wp2_with fail
  refine (shown8_ _).mono ?_
  rintro e w1 ⟨rfl, hf1⟩
  go_wp2_with fail
  refine (config8_ _ _ _ _ _ a0 a1 (by omega) (by omega) (by omega) (by omega)).mono ?_
  rintro e w2 ⟨rfl, hf2⟩
  rw [pick00.1, pick00.2]
  have hn := pickV_bd a 64 (by omega)
  obtain ⟨n, hnn⟩ : ∃ n, n = 1 + pickV a 64 := ⟨_, rfl⟩
  rw [← hnn]
  have hn1 : 1 ≤ n := by omega
  have hn2 : n ≤ 64 := by omega
  clear hnn hn
  have hfw2 := hf1.then hf2
  obtain ⟨gB, hgB⟩ : ∃ gB, gB = w2.heap.size := ⟨_, rfl⟩
  have hB2 := blk_at w2 (cs := #[.int .i64 n, .int .i64 0, .int .i64 0, .int .u32 t]) (t := 25) hgB
  clear hf1 hf2
  obtain ⟨N, hN⟩ : ∃ N : Nat, 2 + 2 * n + 0 + 0 = (N : Int) := ⟨(2 + 2 * n).toNat, by omega⟩
  have ok : cfgOk n 0 0 := by unfold cfgOk; omega
  have HN := Lib.hid hN
  have hN4 : 4 ≤ N := by omega
  have hN5 : N ≤ 130 := by omega
  clear hN
  go_wp2_with fail
  refine (Fresh_N _ n 0 0 t N HN.out ok ht0 ht1).mono ?_
  rintro e w3 ⟨gw, cw, rfl, hW3, hf3⟩
  rw [← hgB]
  have hgB0 : w.heap.size ≤ gB := by have := hfw2.size; omega
  have hB3 := hf3.keepNo hB2
  have hfw3 := (hfw2.alloc _).then hf3
  have hal := fre_0 hn1 hn2 ht0 ht1
  have hfl : (freshL n 0 0 t).length = N := by rw [freshL, tab_len]; have := HN.out; omega
  generalize freshL n 0 0 t = W0 at hW3 hal hfl
  clear hfw2 hB2 hf3 hgB
  go_wp2_with fail
  refine (New_yes _ _ W0 hW3.rd (by omega)).mono ?_
  rintro e w4 ⟨gm, rfl, hM4, hf4⟩
  have hM4 := hM4.born (fun _ => 0) 1
  have hB4 := hf4.keepNo hB3
  have hBs : Bs w w4 (re (fun _ => 0) w3 1) gB gm n t W0 0 :=
    ⟨hfw3.then hf4, (Old.zero w).ext (ext_re _ _ _) hfw3.size, hB4, by rw [re, if_pos hB3.lt], hM4⟩
  clear hM4 hf4 hB3 hfw3 hW3 hfl
  have C4 := hB4.cells
  have hq := pickV_bd b 10 (by omega)
  go_wp2_with fail
  refine (pick8_ _ _ _ b0 b1 (by omega) (by omega)).mono ?_
  rintro e w5 ⟨rfl, rfl⟩
  obtain ⟨B, hB⟩ : ∃ B : Nat, pickV b 10 = (B : Int) := ⟨(pickV b 10).toNat, by omega⟩
  rw [hB] at hq ⊢
  have hB9 : B ≤ 9 := by omega
  clear hq hB
  go_wp2_with fail
  refine (madeTake _ (B : Int) 1 (.slice none 0 0) [] hBs (Rd.nil _ No _) (by simp) (by omega) (by omega) (fun j => by simp)).mono ?_
  rintro e w5 ⟨g, rr, rfl, L5, hBs5, hA5, hE5, hf5⟩
  obtain ⟨gP, hgP⟩ : ∃ gP, gP = w5.heap.size := ⟨_, rfl⟩
  obtain ⟨wp, hwp⟩ : ∃ wp, wp = w5.alloc (.cells #[.pointer (some ⟨g, 0, none⟩), .pointer none, .pointer (some ⟨rr, 0, none⟩)] 90) := ⟨_, rfl⟩
  have hf6 : Fr No w5 wp := by rw [hwp]; exact (Fr.refl No w5).alloc _
  have hP6 : Blk wp gP #[.pointer (some ⟨g, 0, none⟩), .pointer none, .pointer (some ⟨rr, 0, none⟩)] 90 := by rw [hwp]; exact blk_at _ hgP
  have hBs6 := hBs5.ext hf6 (ext_re L5 w5 0)
  have hA6 := hA5.lab (q := fun _ => False) (FrL.ofNo hf6) (ext_re L5 w5 0) id id
  have hInv : T8 w wp gB gm gP g n t B false #[.pointer (some ⟨g, 0, none⟩), .pointer none, .pointer (some ⟨rr, 0, none⟩)] 0 0 :=
    ⟨re L5 w5 0, W0, _, 0, hBs6, hA6, hP6, by rw [re, if_neg (by omega)], ⟨hal.pl, by rw [show upFrom 1 n.toNat = 1 :: upFrom 2 (n.toNat - 1) by rw [show n.toNat = (n.toNat - 1) + 1 by omega]; rfl] at hal; exact hal.ch.1, 0, by
      have e : bud (B : Int) = (B : Int) - ((0 : Nat) : Int) := by unfold bud; rw [if_neg (by omega)]; omega
      show jobA false (B : Int) 1 [] = _
      rw [← e]
      rfl⟩, by omega⟩
  have HW := Lib.hid (And.intro hwp hgP)
  clear hwp hgP hf6 hP6 hBs6 hA6 hBs5 hA5 hE5 hf5 hBs hal C4 hB4
  go_wp2_with fail
  rw [← HW.out.1, ← HW.out.2]
  go_loopw [17] (fun v17 wr => ∃ r ph : Nat, r ≤ B ∧ ph < 3 ∧ v17 = .int .i64 (3 * (r : Int) + ph + 1) ∧ T8 w wr gB gm gP g n t B false #[.pointer (some ⟨g, 0, none⟩), .pointer none, .pointer (some ⟨rr, 0, none⟩)] r ph) (fun v17 _ => 40 - (intOf v17).toNat)
  case atStart => exact ⟨0, 0, by omega, by omega, rfl, hInv⟩
  case round =>
    clear hInv
    obtain ⟨r, ph, hr, hph, rfl, L, ws, A, c, hBs, hA, hP, hPL, hT, hc⟩ := hrel
    obtain ⟨K, hK⟩ : ∃ K : Int, K = 3 * (r : Int) + ph + 1 := ⟨_, rfl⟩
    rw [← hK]
    have hk1 : K ≤ 3 * ((B : Int) + 1) := by omega
    have hk0 : 0 ≤ K := by omega
    have hk50 : K ≤ 40 := by omega
    have HK := Lib.hid hK
    have CP := hP.cells
    have lP := hP.lt
    by_cases h2 : ph = 2
    · subst h2
      have hk3 : (K % 3 == 0) = true := by rw [beq_iff_eq]; omega
      have hkB : ((r : Int) < B → (K == 3 * ((B : Int) + 1)) = false) ∧ ((r : Int) = B → (K == 3 * ((B : Int) + 1)) = true) := ⟨fun h => beq_eq_false_iff_ne.2 (by omega), fun h => by rw [beq_iff_eq]; omega⟩
      have HKB := Lib.hid hkB
      clear hkB hK
      obtain ⟨hb1, hb2⟩ := hT.bump
      have hpl := hT.pl
      have hl1 : ws.length = N := by have := hpl.len; have := HN.out; omega
      have HL1 := Lib.hid hl1
      have hM := hBs.mem
      have hgv : A.give = false ∧ A.shelf.length ≤ 900000 := by obtain ⟨_, _, u, rfl⟩ := hT; exact ⟨rfl, by simp⟩
      clear hl1
      go_wp2_with fail
      refine (Words_at _ hM N HL1.out (by omega) (by omega)).mono ?_
      rintro e w6 ⟨g6, c6, rfl, hO6, hf6⟩
      have ck := own_word hO6 (by omega : 1 < N) HL1.out
      have hBs6 := hBs.no hf6
      have hA6 := hA.no hf6
      have hP6 := hf6.keepNo hP
      have w1 := hpl.words 1
      obtain ⟨x, hx⟩ : ∃ x, x = ws.getD 1 0 := ⟨_, rfl⟩
      rw [← hx] at ck w1
      have hxb : IntKind.u64.wrap (x + 4294967296) = bmp x := by simp [IntKind.wrap, IntKind.bits, IntKind.signed, bmp]
      have HX := Lib.hid hx
      clear hx hf6 hO6
      go_wp2_with fail
      refine (store8 hBs6 hpl (by omega)).mono ?_
      rintro e w7 ⟨rfl, L7, hBs7, hE7, hf7⟩
      have hA7 := hA6.lab hf7 hE7 (by decide) (by decide)
      have hP7 := Fr.keep hf7 hP6 (by rw [hPL]; decide)
      have hPL7 := (hE7 gP hP6.lt).trans hPL
      rw [HX.out] at hBs7
      have CP7 := hP7.cells
      have lP7 := hP7.lt
      clear CP lP ck hP hP6 hBs hBs6 hA hA6 hM hf7 hE7 hPL
      by_cases hrB : (r : Int) < B
      · obtain ⟨A', hgo, s0, i0, sh0, hT'⟩ := hT.go2 hrB
        have K8 := Lib.hid (fun w' hf => (pstep8Take (kS := 4) w' A (.pointer (some ⟨rr, 0, none⟩)) hgv.1 (hA7.no hf) (by decide) (by decide) (by decide) (by decide) (by decide) (by decide) (hBs7.mem.no hf) (by omega) hb2.words hgv.2).mono fun e w' h => h.to (hgo (c + 1)))
        rw [s0, i0] at K8
        have hk4 := HKB.out.1 hrB
        clear hgo hT hgv hb1 hb2 hpl
        go_wp2_with fail
        refine (K8.out w7 (Fr.refl No w7)).mono ?_
        rintro e w8 ⟨v, rfl, hL8⟩
        obtain ⟨L8, hBs8, hA8, hO8, hE8, hf8⟩ := hBs7.aleft hL8
        rw [sh0] at hO8
        obtain ⟨A8, c8, rfl, _, _⟩ := hO8.slice
        have hP8 := Fr.keep hf8 hP7 (by rw [hPL7]; decide)
        have hPL8 := (hE8 gP hP7.lt).trans hPL7
        clear hL8 hO8 hf8 hE8 CP7 lP7 hP7 hPL7
        go_wp2_with fail
        go_roundw
        case rel => exact ⟨r + 1, 0, by omega, by omega, by have := HK.out; go_num, L8, _, A', _, hBs8, hA8, hP8, hPL8, hT', by omega⟩
        case measure => have := HK.out; simp [intOf]; omega
      · obtain ⟨A', hgo, t1, t2⟩ := hT.end (by omega)
        obtain ⟨s0, i0, sh0⟩ := t2 rfl
        have K8 := Lib.hid (fun w' hf => (pstep8Take (kS := 4) w' A (.pointer (some ⟨rr, 0, none⟩)) hgv.1 (hA7.no hf) (by decide) (by decide) (by decide) (by decide) (by decide) (by decide) (hBs7.mem.no hf) (by omega) hb2.words hgv.2).mono fun e w' h => h.to (hgo (c + 1)))
        rw [s0, i0] at K8
        have hk4 := HKB.out.2 (by omega)
        clear hgo hT hgv hb1 hb2 hpl t1 t2
        go_wp2_with fail
        refine (K8.out w7 (Fr.refl No w7)).mono ?_
        rintro e w8 ⟨v, rfl, hL8⟩
        obtain ⟨L8, hBs8, hA8, hO8, hE8, hf8⟩ := hBs7.aleft hL8
        rw [sh0] at hO8
        obtain ⟨A8, c8, rfl, _, _⟩ := hO8.slice
        have hfin := hBs8.fr
        clear hL8 hf8 hE8 CP7 lP7 hP7 hPL7 hBs8 hA8
        go_wp2_with fail
        first
          | (go_ret; exact ⟨rfl, hfin⟩)
          | (have hLit : Rd (w8.alloc (.cells #[.int .u32 1] 23)) (New w8.heap.size) (.slice (some ⟨w8.heap.size, 0, none⟩) 1 1) (us .u32 [1]) := Rd.lit .u32 (blk_new _ _ _) rfl rfl (by decide) (Nat.le_refl _)
             refine (Same32 _ _ _ _ _ [1] (hO8.rd.keepNo ((Fr.refl No w8).alloc _)) hLit).mono ?_
             rintro e w9 ⟨rfl, hf9⟩
             go_wp2_with fail
             go_ret
             exact ⟨rfl, (hfin.alloc _).then hf9⟩)
    · have hk3 : (K % 3 == 0) = false := beq_eq_false_iff_ne.2 (by omega)
      obtain ⟨A', ws', hgo, s0, i0, sh0, hT'⟩ : ∃ A' ws', (∀ c, astep n 0 0 A ws c = (A', ws', c + 1)) ∧ A'.st = 0 ∧ A'.i = 0 ∧ A'.shelf = [] ∧ TrS n B false r (ph + 1) A' ws' := by
        obtain rfl | rfl : ph = 0 ∨ ph = 1 := by omega
        · obtain ⟨A', h⟩ := hT.go0
          exact ⟨A', ws, h⟩
        · exact hT.go1
      have hgv : A.give = false ∧ A.shelf.length ≤ 900000 := by obtain ⟨_, _, u, rfl⟩ := hT; exact ⟨rfl, by simp⟩
      have K8 := Lib.hid (fun w' hf => (pstep8Take (kS := 4) w' A (.pointer (some ⟨rr, 0, none⟩)) hgv.1 (hA.no hf) (by decide) (by decide) (by decide) (by decide) (by decide) (by decide) (hBs.mem.no hf) (by omega) hT.pl.words hgv.2).mono fun e w' h => h.to (hgo c))
      rw [s0, i0] at K8
      clear hgo hT hgv
      have hk4 : (K == 3 * ((B : Int) + 1)) = false := beq_eq_false_iff_ne.2 (by omega)
      clear hK
      go_wp2_with fail
      refine (K8.out wr (Fr.refl No wr)).mono ?_
      rintro e w8 ⟨v, rfl, hL8⟩
      obtain ⟨L8, hBs8, hA8, hO8, hE8, hf8⟩ := hBs.aleft hL8
      rw [sh0] at hO8
      obtain ⟨A8, c8, rfl, _, _⟩ := hO8.slice
      have hP8 := Fr.keep hf8 hP (by rw [hPL]; decide)
      have hPL8 := (hE8 gP hP.lt).trans hPL
      clear hL8 hO8 hf8 hE8 CP lP hP hPL hBs hA
      go_wp2_with fail
      go_roundw
      case rel => exact ⟨r, ph + 1, by omega, by omega, by have := HK.out; go_num, L8, ws', A', _, hBs8, hA8, hP8, hPL8, hT', by omega⟩
      case measure => have := HK.out; simp [intOf]; omega

set_option maxRecDepth 100000 in
set_option maxHeartbeats 8000000 in
theorem ArenaTriesGive (w : World) (a t b : Int) (ha : I64 a) (ht0 : 0 ≤ t) (ht1 : t < 4294967296) (hb : I64 b) :
    Calls Try.prog 10 #[.int .i64 a, .int .u32 t, .int .i64 b, .bool true] w fun e w' => e = .returned (.bool true) ∧ Fr No w w' := by
  obtain ⟨a0, a1⟩ := ha
  obtain ⟨b0, b1⟩ := hb
  go_enter Try.func10, Try.ntmps10
  go_wp2_with fail
  refine (shown8_ _).mono ?_
  rintro e w1 ⟨rfl, hf1⟩
  go_wp2_with fail
  refine (config8_ _ _ _ _ _ a0 a1 (by omega) (by omega) (by omega) (by omega)).mono ?_
  rintro e w2 ⟨rfl, hf2⟩
  rw [pick00.1, pick00.2]
  have hn := pickV_bd a 64 (by omega)
  obtain ⟨n, hnn⟩ : ∃ n, n = 1 + pickV a 64 := ⟨_, rfl⟩
  rw [← hnn]
  have hn1 : 1 ≤ n := by omega
  have hn2 : n ≤ 64 := by omega
  clear hnn hn
  have hfw2 := hf1.then hf2
  obtain ⟨gB, hgB⟩ : ∃ gB, gB = w2.heap.size := ⟨_, rfl⟩
  have hB2 := blk_at w2 (cs := #[.int .i64 n, .int .i64 0, .int .i64 0, .int .u32 t]) (t := 25) hgB
  clear hf1 hf2
  obtain ⟨N, hN⟩ : ∃ N : Nat, 2 + 2 * n + 0 + 0 = (N : Int) := ⟨(2 + 2 * n).toNat, by omega⟩
  have ok : cfgOk n 0 0 := by unfold cfgOk; omega
  have HN := Lib.hid hN
  have hN4 : 4 ≤ N := by omega
  have hN5 : N ≤ 130 := by omega
  clear hN
  go_wp2_with fail
  refine (Fresh_N _ n 0 0 t N HN.out ok ht0 ht1).mono ?_
  rintro e w3 ⟨gw, cw, rfl, hW3, hf3⟩
  rw [← hgB]
  have hgB0 : w.heap.size ≤ gB := by have := hfw2.size; omega
  have hB3 := hf3.keepNo hB2
  have hfw3 := (hfw2.alloc _).then hf3
  have hal := fre_0 hn1 hn2 ht0 ht1
  have hfl : (freshL n 0 0 t).length = N := by rw [freshL, tab_len]; have := HN.out; omega
  generalize freshL n 0 0 t = W0 at hW3 hal hfl
  clear hfw2 hB2 hf3 hgB
  go_wp2_with fail
  refine (New_yes _ _ W0 hW3.rd (by omega)).mono ?_
  rintro e w4 ⟨gm, rfl, hM4, hf4⟩
  have hM4 := hM4.born (fun _ => 0) 1
  have hB4 := hf4.keepNo hB3
  have hBs : Bs w w4 (re (fun _ => 0) w3 1) gB gm n t W0 0 :=
    ⟨hfw3.then hf4, (Old.zero w).ext (ext_re _ _ _) hfw3.size, hB4, by rw [re, if_pos hB3.lt], hM4⟩
  clear hM4 hf4 hB3 hfw3 hW3 hfl
  have C4 := hB4.cells
  have hq := pickV_bd b 10 (by omega)
  go_wp2_with fail
  refine (pick8_ _ _ _ b0 b1 (by omega) (by omega)).mono ?_
  rintro e w5 ⟨rfl, rfl⟩
  obtain ⟨B, hB⟩ : ∃ B : Nat, pickV b 10 = (B : Int) := ⟨(pickV b 10).toNat, by omega⟩
  rw [hB] at hq ⊢
  have hB9 : B ≤ 9 := by omega
  clear hq hB
  go_wp2_with fail
  refine (madeGive _ (B : Int) 1 (.slice none 0 0) [] hBs (Rd.nil _ No _) (by simp) (by omega) (by omega) (fun j => by simp)).mono ?_
  rintro e w5 ⟨g, rr, rfl, L5, hBs5, hA5, hE5, hf5⟩
  obtain ⟨gP, hgP⟩ : ∃ gP, gP = w5.heap.size := ⟨_, rfl⟩
  obtain ⟨wp, hwp⟩ : ∃ wp, wp = w5.alloc (.cells #[.pointer none, .pointer (some ⟨g, 0, none⟩), .pointer (some ⟨rr, 0, none⟩)] 90) := ⟨_, rfl⟩
  have hf6 : Fr No w5 wp := by rw [hwp]; exact (Fr.refl No w5).alloc _
  have hP6 : Blk wp gP #[.pointer none, .pointer (some ⟨g, 0, none⟩), .pointer (some ⟨rr, 0, none⟩)] 90 := by rw [hwp]; exact blk_at _ hgP
  have hBs6 := hBs5.ext hf6 (ext_re L5 w5 0)
  have hA6 := hA5.lab (q := fun _ => False) (FrL.ofNo hf6) (ext_re L5 w5 0) id id
  have hInv : T8 w wp gB gm gP g n t B true #[.pointer none, .pointer (some ⟨g, 0, none⟩), .pointer (some ⟨rr, 0, none⟩)] 0 0 :=
    ⟨re L5 w5 0, W0, _, 0, hBs6, hA6, hP6, by rw [re, if_neg (by omega)], ⟨hal.pl, by rw [show upFrom 1 n.toNat = 1 :: upFrom 2 (n.toNat - 1) by rw [show n.toNat = (n.toNat - 1) + 1 by omega]; rfl] at hal; exact hal.ch.1, 0, by
      have e : bud (B : Int) = (B : Int) - ((0 : Nat) : Int) := by unfold bud; rw [if_neg (by omega)]; omega
      show jobA true (B : Int) 1 [] = _
      rw [← e]
      rfl⟩, by omega⟩
  have HW := Lib.hid (And.intro hwp hgP)
  clear hwp hgP hf6 hP6 hBs6 hA6 hBs5 hA5 hE5 hf5 hBs hal C4 hB4
  go_wp2_with fail
  rw [← HW.out.1, ← HW.out.2]
  go_loopw [17] (fun v17 wr => ∃ r ph : Nat, r ≤ B ∧ ph < 3 ∧ v17 = .int .i64 (3 * (r : Int) + ph + 1) ∧ T8 w wr gB gm gP g n t B true #[.pointer none, .pointer (some ⟨g, 0, none⟩), .pointer (some ⟨rr, 0, none⟩)] r ph) (fun v17 _ => 40 - (intOf v17).toNat)
  case atStart => exact ⟨0, 0, by omega, by omega, rfl, hInv⟩
  case round =>
    clear hInv
    obtain ⟨r, ph, hr, hph, rfl, L, ws, A, c, hBs, hA, hP, hPL, hT, hc⟩ := hrel
    obtain ⟨K, hK⟩ : ∃ K : Int, K = 3 * (r : Int) + ph + 1 := ⟨_, rfl⟩
    rw [← hK]
    have hk1 : K ≤ 3 * ((B : Int) + 1) := by omega
    have hk0 : 0 ≤ K := by omega
    have hk50 : K ≤ 40 := by omega
    have HK := Lib.hid hK
    have CP := hP.cells
    have lP := hP.lt
    by_cases h2 : ph = 2
    · subst h2
      have hk3 : (K % 3 == 0) = true := by rw [beq_iff_eq]; omega
      have hkB : ((r : Int) < B → (K == 3 * ((B : Int) + 1)) = false) ∧ ((r : Int) = B → (K == 3 * ((B : Int) + 1)) = true) := ⟨fun h => beq_eq_false_iff_ne.2 (by omega), fun h => by rw [beq_iff_eq]; omega⟩
      have HKB := Lib.hid hkB
      clear hkB hK
      obtain ⟨hb1, hb2⟩ := hT.bump
      have hpl := hT.pl
      have hl1 : ws.length = N := by have := hpl.len; have := HN.out; omega
      have HL1 := Lib.hid hl1
      have hM := hBs.mem
      have hgv : A.give = true ∧ A.shelf.length ≤ 900000 := by obtain ⟨_, _, u, rfl⟩ := hT; exact ⟨rfl, by simp⟩
      clear hl1
      go_wp2_with fail
      refine (Words_at _ hM N HL1.out (by omega) (by omega)).mono ?_
      rintro e w6 ⟨g6, c6, rfl, hO6, hf6⟩
      have ck := own_word hO6 (by omega : 1 < N) HL1.out
      have hBs6 := hBs.no hf6
      have hA6 := hA.no hf6
      have hP6 := hf6.keepNo hP
      have w1 := hpl.words 1
      obtain ⟨x, hx⟩ : ∃ x, x = ws.getD 1 0 := ⟨_, rfl⟩
      rw [← hx] at ck w1
      have hxb : IntKind.u64.wrap (x + 4294967296) = bmp x := by simp [IntKind.wrap, IntKind.bits, IntKind.signed, bmp]
      have HX := Lib.hid hx
      clear hx hf6 hO6
      go_wp2_with fail
      refine (store8 hBs6 hpl (by omega)).mono ?_
      rintro e w7 ⟨rfl, L7, hBs7, hE7, hf7⟩
      have hA7 := hA6.lab hf7 hE7 (by decide) (by decide)
      have hP7 := Fr.keep hf7 hP6 (by rw [hPL]; decide)
      have hPL7 := (hE7 gP hP6.lt).trans hPL
      rw [HX.out] at hBs7
      have CP7 := hP7.cells
      have lP7 := hP7.lt
      clear CP lP ck hP hP6 hBs hBs6 hA hA6 hM hf7 hE7 hPL
      by_cases hrB : (r : Int) < B
      · obtain ⟨A', hgo, s0, i0, sh0, hT'⟩ := hT.go2 hrB
        have K8 := Lib.hid (fun w' hf => (pstep8Give (kS := 4) w' A (.pointer (some ⟨rr, 0, none⟩)) hgv.1 (hA7.no hf) (by decide) (by decide) (by decide) (by decide) (by decide) (by decide) (hBs7.mem.no hf) (by omega) hb2.words hgv.2).mono fun e w' h => h.to (hgo (c + 1)))
        rw [s0, i0] at K8
        have hk4 := HKB.out.1 hrB
        clear hgo hT hgv hb1 hb2 hpl
        go_wp2_with fail
        refine (K8.out w7 (Fr.refl No w7)).mono ?_
        rintro e w8 ⟨v, rfl, hL8⟩
        obtain ⟨L8, hBs8, hA8, hO8, hE8, hf8⟩ := hBs7.aleft hL8
        rw [sh0] at hO8
        obtain ⟨A8, c8, rfl, _, _⟩ := hO8.slice
        have hP8 := Fr.keep hf8 hP7 (by rw [hPL7]; decide)
        have hPL8 := (hE8 gP hP7.lt).trans hPL7
        clear hL8 hO8 hf8 hE8 CP7 lP7 hP7 hPL7
        go_wp2_with fail
        go_roundw
        case rel => exact ⟨r + 1, 0, by omega, by omega, by have := HK.out; go_num, L8, _, A', _, hBs8, hA8, hP8, hPL8, hT', by omega⟩
        case measure => have := HK.out; simp [intOf]; omega
      · obtain ⟨A', hgo, t1, t2⟩ := hT.end (by omega)
        obtain ⟨s0, i0, sh0⟩ := t1 rfl
        have K8 := Lib.hid (fun w' hf => (pstep8Give (kS := 4) w' A (.pointer (some ⟨rr, 0, none⟩)) hgv.1 (hA7.no hf) (by decide) (by decide) (by decide) (by decide) (by decide) (by decide) (hBs7.mem.no hf) (by omega) hb2.words hgv.2).mono fun e w' h => h.to (hgo (c + 1)))
        rw [s0, i0] at K8
        have hk4 := HKB.out.2 (by omega)
        clear hgo hT hgv hb1 hb2 hpl t1 t2
        go_wp2_with fail
        refine (K8.out w7 (Fr.refl No w7)).mono ?_
        rintro e w8 ⟨v, rfl, hL8⟩
        obtain ⟨L8, hBs8, hA8, hO8, hE8, hf8⟩ := hBs7.aleft hL8
        rw [sh0] at hO8
        obtain ⟨A8, c8, rfl, _, _⟩ := hO8.slice
        have hfin := hBs8.fr
        clear hL8 hf8 hE8 CP7 lP7 hP7 hPL7 hBs8 hA8
        go_wp2_with fail
        first
          | (go_ret; exact ⟨rfl, hfin⟩)
          | (have hLit : Rd (w8.alloc (.cells #[.int .u32 1] 23)) (New w8.heap.size) (.slice (some ⟨w8.heap.size, 0, none⟩) 1 1) (us .u32 [1]) := Rd.lit .u32 (blk_new _ _ _) rfl rfl (by decide) (Nat.le_refl _)
             refine (Same32 _ _ _ _ _ [1] (hO8.rd.keepNo ((Fr.refl No w8).alloc _)) hLit).mono ?_
             rintro e w9 ⟨rfl, hf9⟩
             go_wp2_with fail
             go_ret
             exact ⟨rfl, (hfin.alloc _).then hf9⟩)
    · have hk3 : (K % 3 == 0) = false := beq_eq_false_iff_ne.2 (by omega)
      obtain ⟨A', ws', hgo, s0, i0, sh0, hT'⟩ : ∃ A' ws', (∀ c, astep n 0 0 A ws c = (A', ws', c + 1)) ∧ A'.st = 0 ∧ A'.i = 0 ∧ A'.shelf = [] ∧ TrS n B true r (ph + 1) A' ws' := by
        obtain rfl | rfl : ph = 0 ∨ ph = 1 := by omega
        · obtain ⟨A', h⟩ := hT.go0
          exact ⟨A', ws, h⟩
        · exact hT.go1
      have hgv : A.give = true ∧ A.shelf.length ≤ 900000 := by obtain ⟨_, _, u, rfl⟩ := hT; exact ⟨rfl, by simp⟩
      have K8 := Lib.hid (fun w' hf => (pstep8Give (kS := 4) w' A (.pointer (some ⟨rr, 0, none⟩)) hgv.1 (hA.no hf) (by decide) (by decide) (by decide) (by decide) (by decide) (by decide) (hBs.mem.no hf) (by omega) hT.pl.words hgv.2).mono fun e w' h => h.to (hgo c))
      rw [s0, i0] at K8
      clear hgo hT hgv
      have hk4 : (K == 3 * ((B : Int) + 1)) = false := beq_eq_false_iff_ne.2 (by omega)
      clear hK
      go_wp2_with fail
      refine (K8.out wr (Fr.refl No wr)).mono ?_
      rintro e w8 ⟨v, rfl, hL8⟩
      obtain ⟨L8, hBs8, hA8, hO8, hE8, hf8⟩ := hBs.aleft hL8
      rw [sh0] at hO8
      obtain ⟨A8, c8, rfl, _, _⟩ := hO8.slice
      have hP8 := Fr.keep hf8 hP (by rw [hPL]; decide)
      have hPL8 := (hE8 gP hP.lt).trans hPL
      clear hL8 hO8 hf8 hE8 CP lP hP hPL hBs hA
      go_wp2_with fail
      go_roundw
      case rel => exact ⟨r, ph + 1, by omega, by omega, by have := HK.out; go_num, L8, ws', A', _, hBs8, hA8, hP8, hPL8, hT', by omega⟩
      case measure => have := HK.out; simp [intOf]; omega


theorem ArenaTries_ (w : World) (a t b : Int) (gv : Bool) (ha : I64 a) (ht0 : 0 ≤ t) (ht1 : t < 4294967296) (hb : I64 b) :
    Calls Try.prog 10 #[.int .i64 a, .int .u32 t, .int .i64 b, .bool gv] w fun e w' => e = .returned (.bool true) ∧ Fr No w w' := by
  cases gv with
  | true => exact ArenaTriesGive w a t b ha ht0 ht1 hb
  | false => exact ArenaTriesTake w a t b ha ht0 ht1 hb
end Go.Proofs.Ytfglpigoljclbaa.H
