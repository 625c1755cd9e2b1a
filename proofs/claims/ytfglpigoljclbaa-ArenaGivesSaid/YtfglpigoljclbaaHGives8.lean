/- Law 8's ArenaGives: what is given back is the first one that is taken then. -/
import Derived.Test.YtfglpigoljclbaaHShelf8
import Derived.Test.YtfglpigoljclbaaHAlone8
set_option linter.unusedVariables false
set_option linter.unusedSimpArgs false
namespace Go.Proofs.Ytfglpigoljclbaa.H
open Go.RowKit
attribute [local go_sem ↓] Go.wp_at_zero Go.wp_at_succ

section
variable {n t p i v : Int} {ws : List Int} {c : Nat}
theorem astep_of_give {A : Arn} {ws' : List Int} {c' : Nat} {m m' : Mch} (hgv : A.give = true) (hst : A.st = 0) (hm : A.now.getD A.fresh = m) (hg : mgo n 0 0 m ws c = (m', ws', c')) (h3 : ¬ m'.st = 3) (h6 : ¬ m'.st = 6) :
    astep n 0 0 A ws c = ({ A with now := some m', st := m'.st, i := m'.told }, ws', c') := by
  have e : ago n 0 0 A ws c = ({ A with now := some m', st := m'.st, i := m'.told }, ws', c') := by
    unfold ago
    rw [if_pos hst, hm, hg]
    simp only
    rw [if_neg h3]
  unfold astep
  rw [e, if_pos hgv]
  simp only
  rw [if_neg h6]

/-- A run of a Give, whatever its shelf is. -/
structure RunG (n : Int) (N : Nat) (qs : Nat → Arn) (wss : Nat → List Int) (xs : List Int) : Prop where
  go : ∀ j, j < N → ∀ c, astep n 0 0 (qs j) (wss j) c = (qs (j + 1), wss (j + 1), c + 1)
  runs : ∀ j, j < N → (qs j).st = 0
  last : (qs N).st = 1
  words : ∀ j, j ≤ N → Words (wss j)
  shelf : ∀ j, j ≤ N → (qs j).shelf = xs
  give : ∀ j, j ≤ N → (qs j).give = true

theorem RunN.gives {N : Nat} {ms : Nat → Mch} {wss : Nat → List Int} (h : RunN n N ms wss 1 i) (hN : 0 < N) (A : Arn) (h0 : ms 0 = A.fresh) (hn : A.now = none) (hgv : A.give = true) (hst : A.st = 0) :
    ∃ qs : Nat → Arn, qs 0 = A ∧ RunG n N qs wss A.shelf := by
  refine ⟨fun j => match j with | 0 => A | j + 1 => { A with now := some (ms (j + 1)), st := (ms (j + 1)).st, i := (ms (j + 1)).told }, rfl, ⟨fun j hj c => ?_, fun j hj => ?_, ?_, h.words, fun j hj => ?_, fun j hj => ?_⟩⟩
  · have hx : (ms (j + 1)).st = 0 ∨ (ms (j + 1)).st = 1 := by
      by_cases hl : j + 1 < N
      · exact .inl (h.runs _ hl)
      · exact .inr (by rw [show j + 1 = N by omega]; exact h.last)
    have k3 : ¬ (ms (j + 1)).st = 3 := by omega
    have k6 : ¬ (ms (j + 1)).st = 6 := by omega
    match j with
    | 0 => exact astep_of_give hgv hst (by rw [hn]; exact h0.symm) (h.go 0 hj c) k3 k6
    | j + 1 => exact astep_of_give hgv (h.runs _ hj) rfl (h.go (j + 1) hj c) k3 k6
  · match j with
    | 0 => exact hst
    | j + 1 => exact h.runs _ hj
  · match N, hN with
    | N + 1, _ => exact h.last
  · match j with
    | 0 => rfl
    | j + 1 => rfl
  · match j with
    | 0 => exact hgv
    | j + 1 => exact hgv

/-- A node is given, by a machine with a shelf. -/
theorem Fre.gives {x : Int} (h : Fre n [] ws) (x1 : 1 ≤ x) (x2 : x ≤ n) (A : Arn) (hg : A.give = true) (hnode : A.node = x) (hn : A.now = Option.none) (hst : A.st = 0) :
    ∃ qs wss ws1, qs 0 = A ∧ RunG n 3 qs wss A.shelf ∧ wss 0 = ws ∧ wss 3 = ws1 ∧ Fre n [x] ws1 := by
  obtain ⟨pl, c1⟩ := h
  have n2 := pl.n2
  have hl := pl.len
  have hf : A.fresh = ⟨true, 1, x, 0, 0, 0, 0⟩ := by unfold Arn.fresh; rw [if_pos hg, hnode]
  have T2 := three_give (i := x) pl (p := 1) (.inr rfl) rfl x1 x2
  rw [show (1 : Int).toNat = 1 from rfl] at T2
  have w1 := pl.words 1
  have P2 := pl.set (2 * x).toNat (ws.getD 1 0 % 4294967296) (by omega) (by omega)
  obtain ⟨d0, d1⟩ := nextWord_in (ws.getD 1 0) x (by omega) (by omega)
  have P3 := P2.set 1 (nextWord (ws.getD 1 0) x) d0 d1
  have g2 : ∀ j, ((ws.set (2 * x).toNat (ws.getD 1 0 % 4294967296)).set 1 (nextWord (ws.getD 1 0) x)).getD j 0 =
      if j = 1 then nextWord (ws.getD 1 0) x else if j = (2 * x).toNat then ws.getD 1 0 % 4294967296 else ws.getD j 0 := fun j => by
    rw [getD_set _ _ _ _ (by rw [List.length_set]; omega)]
    split
    · rfl
    · exact getD_set _ _ _ _ (by omega)
  obtain ⟨ms, wss, r1, r2, r3, r4⟩ := T2.run rfl pl.words P3.words
  obtain ⟨qs, q1, q2⟩ := r1.gives (by omega) A (by rw [r2, hf]) hn hg hst
  generalize (ws.set (2 * x).toNat (ws.getD 1 0 % 4294967296)).set 1 (nextWord (ws.getD 1 0) x) = ws2 at *
  refine ⟨qs, wss, ws2, q1, q2, r3, r4, P3, ?_⟩
  rw [g2, if_pos rfl, nextWord_lo _ _ (by omega) (by omega)]
  refine ⟨rfl, x1, x2, ?_⟩
  rw [g2, if_neg (by omega), if_pos rfl, show ws.getD 1 0 % 4294967296 % 4294967296 = ws.getD 1 0 % 4294967296 by omega]
  exact c1
end

/-- Ahead of a step of the Give. -/
def G8 (w wr : World) (gB gm gP g : Nat) (n : Int) (cs : Array Value) (A : Arn) (ws : List Int) (cb : Nat) : Prop :=
  ∃ L c, Bs w wr L gB gm n 3 ws c ∧ ArnAt wr L 2 3 g n 0 0 3 A ∧ Blk wr gP cs 90 ∧ L gP = 0 ∧ c ≤ cb

set_option maxRecDepth 100000 in
set_option maxHeartbeats 8000000 in
theorem ArenaGives_ (w : World) (a b : Int) (v : Value) (xs : List Int) (ha : I64 a) (hb : I64 b) (hv : Rd w (fun _ => True) v (us .u32 xs)) (hx : ∀ j, 0 ≤ xs.getD j 0 ∧ xs.getD j 0 < 4294967296) :
    Calls Try.prog 12 #[.int .i64 a, v, .int .i64 b] w fun e w' => e = .returned (.bool true) ∧ Fr No w w' := by
  obtain ⟨a0, a1⟩ := ha
  obtain ⟨b0, b1⟩ := hb
  have HV := Lib.hid hv
  have HX := Lib.hid hx
  obtain ⟨A1, c1, rfl, hlc, hcm⟩ := hv.slice
  clear hv hx
  go_enter Try.func12, Try.ntmps12
  go_wp2_with fail
  refine (shown8_ _).mono ?_
  rintro e w1 ⟨rfl, hf1⟩
  go_wp2_with fail
  refine (config8_ _ _ _ _ _ a0 a1 (by omega) (by omega) (by omega) (by omega)).mono ?_
  rintro e w2 ⟨rfl, hf2⟩
  rw [pick00.1, pick00.2]
  have hn := pickV_bd a 64 (by omega)
  obtain ⟨n, hnn⟩ : ∃ n, n = 1 + pickV a 64 := ⟨_, rfl⟩
  rw [← hnn]
  have hn1 : 1 ≤ n := by omega
  have hn2 : n ≤ 64 := by omega
  clear hnn hn
  have hfw2 := hf1.then hf2
  obtain ⟨gB, hgB⟩ : ∃ gB, gB = w2.heap.size := ⟨_, rfl⟩
  have hB2 := blk_at w2 (cs := #[.int .i64 n, .int .i64 0, .int .i64 0, .int .u32 3]) (t := 25) hgB
  clear hf1 hf2
  obtain ⟨N, hN⟩ : ∃ N : Nat, 2 + 2 * n + 0 + 0 = (N : Int) := ⟨(2 + 2 * n).toNat, by omega⟩
  have ok : cfgOk n 0 0 := by unfold cfgOk; omega
  have HN := Lib.hid hN
  have hN4 : 4 ≤ N := by omega
  have hN5 : N ≤ 130 := by omega
  clear hN
  go_wp2_with fail
  refine (Fresh_N _ n 0 0 3 N HN.out ok (by omega) (by omega)).mono ?_
  rintro e w3 ⟨gw, cw, rfl, hW3, hf3⟩
  rw [← hgB]
  have hgB0 : w.heap.size ≤ gB := by have := hfw2.size; omega
  have hB3 := hf3.keepNo hB2
  have hfw3 := (hfw2.alloc _).then hf3
  have hal := fre_0 (t := 3) hn1 hn2 (by omega) (by omega)
  have hfl : (freshL n 0 0 3).length = N := by rw [freshL, tab_len]; have := HN.out; omega
  generalize freshL n 0 0 3 = W0 at hW3 hal hfl
  clear hfw2 hB2 hf3 hgB
  by_cases h50 : 50 < xs.length
  · have h50i : (50 : Int) < xs.length := by omega
    go_wp2_with fail
    go_ret
    exact ⟨rfl, hfw3⟩
  have h50i : ¬ (50 : Int) < xs.length := by omega
  go_wp2_with fail
  refine (New_yes _ _ W0 hW3.rd (by omega)).mono ?_
  rintro e w4 ⟨gm, rfl, hM4, hf4⟩
  have hM4 := hM4.born (fun _ => 0) 1
  have hB4 := hf4.keepNo hB3
  have hBs : Bs w w4 (re (fun _ => 0) w3 1) gB gm n 3 W0 (3 * 0) :=
    ⟨hfw3.then hf4, (Old.zero w).ext (ext_re _ _ _) hfw3.size, hB4, by rw [re, if_pos hB3.lt], hM4⟩
  have hInv : A8 w w4 gB gm n 3 (upFrom ((0 : Nat) + 1) (n.toNat - 0)) (3 * 0) := ⟨_, _, hBs, hal⟩
  clear hM4 hf4 hB3 hfw3 hW3 hfl hB4 hBs hal
  go_wp2_with fail
  go_loopw [13] (fun v13 wr => ∃ k : Nat, (k : Int) ≤ n ∧ v13 = .int .i64 ((k : Int) + 1) ∧ A8 w wr gB gm n 3 (upFrom ((k : Nat) + 1) (n.toNat - k)) (3 * k)) (fun v13 _ => 65 - (intOf v13).toNat)
  case atStart => exact ⟨0, by omega, rfl, hInv⟩
  case round =>
    clear hInv
    obtain ⟨k, hk, rfl, L, ws, hBs, hal⟩ := hrel
    have C := hBs.cfg.cells
    by_cases hlt : (k : Int) < n
    · have hk1 : (k : Int) + 1 ≤ n := by omega
      obtain ⟨qs, wss, ws1, e0, hR, e1, e3, hal1⟩ := hal.up hlt (jobA false b 0 []) rfl rfl rfl rfl
      go_wp2_with fail
      refine (madeTake _ b 0 (.slice none 0 0) [] hBs (Rd.nil _ No _) (by simp) b1 b0 (fun j => by simp)).mono ?_
      rintro e w5 ⟨g, r, rfl, L5, hBs5, hA5, _, hf5⟩
      rw [← e0] at hA5
      clear C
      have w6a : IntKind.u32.wrap ((k : Int) + 1) = (k : Int) + 1 := IntWalk.u32_in _ (by omega)
      have hv5 : APairOf (qs 0).give g (.pointer (some ⟨g, 0, none⟩)) (.pointer none) := .inr ⟨by rw [e0]; rfl, rfl, rfl⟩
      obtain ⟨wp, hwp⟩ : ∃ wp, wp = w5.alloc (.cells #[.pointer (some ⟨g, 0, none⟩), .pointer none, .pointer (some ⟨r, 0, none⟩)] 90) := ⟨_, rfl⟩
      have hf6 : Fr No w5 wp := by rw [hwp]; exact (Fr.refl No w5).alloc _
      have hBs6 := hBs5.no hf6
      have hA6 := hA5.no hf6
      have hM6 := hBs6.mem
      rw [← e1] at hM6
      clear hf6
      have HE := Lib.hid (And.intro e0 (And.intro e1 (And.intro e3 hwp)))
      clear e0 e1 e3 hwp
      go_wp2_with fail
      rw [← HE.out.2.2.2]
      refine (ends8p _ 3 qs wss 1 ((k : Int) + 1) _ _ _ hv5 hA6 hM6 (by omega) (by omega) (by omega) hR (by decide) (by decide)).mono ?_
      rintro e w7 ⟨rfl, hL7⟩
      rw [HE.out.2.2.1] at hL7
      rw [HE.out.2.1] at hM6
      obtain ⟨L7, hBs7⟩ := hBs6.alft hL7
      clear hL7 hv5 hA6 hM6 hBs6 hA5 hBs5 hf5
      go_wp2_with fail
      go_roundw
      case rel => exact ⟨k + 1, by omega, by go_num, L7, ws1, hBs7, hal1⟩
      case measure => simp [intOf]; omega
    · have hkn : (k : Int) = n := by omega
      have hk1 : ¬ (k : Int) + 1 ≤ n := by omega
      rw [show n.toNat - k = 0 by omega, show (3 * k : Nat) = 3 * n.toNat by omega] at *
      have hal0 : Fre n [] ws := hal
      have hnn : 3 * n.toNat ≤ 192 := by omega
      have hne : n % 4294967296 = n := by omega
      obtain ⟨qs, wss, ws1, e0, hR, e1, e3, hal1⟩ := hal0.gives hn1 (Int.le_refl _) (jobA true b n xs) rfl hne rfl rfl
      have hv4 := HV.out.keepNo hBs.fr
      have q0 := C 0
      simp at q0
      clear hkn hk hal hlt C
      have C := hBs.cfg.cells
      go_wp2_with fail
      refine (madeGive _ b n _ xs hBs hv4 (by omega) b1 b0 HX.out).mono ?_
      rintro e w5 ⟨g, r, rfl, L5, hBs5, hA5, hE5, hf5⟩
      rw [← e0] at hA5
      clear C hk1 q0 hv4
      obtain ⟨gP, hgP⟩ : ∃ gP, gP = w5.heap.size := ⟨_, rfl⟩
      obtain ⟨wp, hwp⟩ : ∃ wp, wp = w5.alloc (.cells #[.pointer none, .pointer (some ⟨g, 0, none⟩), .pointer (some ⟨r, 0, none⟩)] 90) := ⟨_, rfl⟩
      have hf6 : Fr No w5 wp := by rw [hwp]; exact (Fr.refl No w5).alloc _
      have hP6 : Blk wp gP #[.pointer none, .pointer (some ⟨g, 0, none⟩), .pointer (some ⟨r, 0, none⟩)] 90 := by rw [hwp]; exact blk_at _ hgP
      have hBs6 := hBs5.ext hf6 (ext_re L5 w5 0)
      have hA6 := hA5.lab (q := fun _ => False) (FrL.ofNo hf6) (ext_re L5 w5 0) id id
      rw [← e1] at hBs6
      have hInv2 : G8 w wp gB gm gP g n #[.pointer none, .pointer (some ⟨g, 0, none⟩), .pointer (some ⟨r, 0, none⟩)] (qs 0) (wss 0) (200 + 0) := ⟨re L5 w5 0, _, hBs6, hA6, hP6, by rw [re, if_neg (by omega)], by omega⟩
      have HW := Lib.hid (And.intro hwp hgP)
      have HE := Lib.hid (And.intro e0 (And.intro e1 e3))
      clear hwp hgP hf6 hP6 hBs6 hA6 hBs5 hA5 hE5 hf5 hBs hal0 e0 e1 e3
      go_wp2_with fail
      rw [← HW.out.1, ← HW.out.2]
      go_loopw [16] (fun v16 wr => ∃ j : Nat, j ≤ 3 ∧ v16 = .int .i64 (j : Int) ∧ G8 w wr gB gm gP g n #[.pointer none, .pointer (some ⟨g, 0, none⟩), .pointer (some ⟨r, 0, none⟩)] (qs j) (wss j) (200 + j)) (fun v16 _ => 4 - (intOf v16).toNat)
      case atStart => exact ⟨0, by omega, rfl, hInv2⟩
      case round =>
        clear hInv2
        obtain ⟨j, hj, rfl, L, c, hBs, hA, hP, hPL, hc⟩ := hrel
        by_cases hlt : j < 3
        · have hj1 : (j : Int) < 3 := by omega
          have CP := hP.cells
          have lP := hP.lt
          have hsh := hR.shelf (j + 1) (by omega)
          have hsl : (qs j).shelf.length ≤ 900000 := by rw [hR.shelf j (by omega)]; show xs.length ≤ _; omega
          have K8 := Lib.hid ((pstep8Give (kS := 4) wr _ (.pointer (some ⟨r, 0, none⟩)) (hR.give j (by omega)) hA (by decide) (by decide) (by decide) (by decide) (by decide) (by decide) hBs.mem (by omega) (hR.words j (by omega)) hsl).mono fun e w' h => h.to (hR.go j hlt c))
          go_wp2_with fail
          refine K8.out.mono ?_
          by_cases hl : j + 1 < 3
          · have hs := hR.runs (j + 1) hl
            rw [hs]
            clear hs
            rintro e w7 ⟨v7, rfl, hL7⟩
            obtain ⟨L7, hBs7, hA7, hO7, hE7, hf7⟩ := hBs.aleft hL7
            rw [hsh] at hO7
            have hP7 := Fr.keep hf7 hP (by rw [hPL]; decide)
            have hPL7 := (hE7 gP hP.lt).trans hPL
            have hv7 := HV.out.keepNo hBs7.fr
            have hO8 : Own w7 (Lab L7 w7 4) 23 1 v7 xs.length (us .u32 xs) := hO7
            obtain ⟨A7, c7, rfl, _, _⟩ := hO8.slice
            have hj2 : ((j : Int) == 2) = false := beq_eq_false_iff_ne.2 (by omega)
            clear hL7 hO7 hsh CP lP K8 hf7 hE7
            go_wp2_with fail
            refine (Same32 _ _ _ _ _ xs hO8.rd hv7).mono ?_
            rintro e w8 ⟨rfl, hf8⟩
            go_wp2_with fail
            go_roundw
            case rel => exact ⟨j + 1, by omega, by go_num, L7, _, hBs7.no hf8, hA7.no hf8, hf8.keepNo hP7, hPL7, by omega⟩
            case measure => simp [intOf]; omega
          · have hl2 : j + 1 = 3 := by omega
            have hs : (qs (j + 1)).st = 1 := by rw [hl2]; exact hR.last
            rw [hs]
            clear hs
            rintro e w7 ⟨v7, rfl, hL7⟩
            obtain ⟨L7, hBs7, hA7, hO7, hE7, hf7⟩ := hBs.aleft hL7
            rw [hsh] at hO7
            have hP7 := Fr.keep hf7 hP (by rw [hPL]; decide)
            have hPL7 := (hE7 gP hP.lt).trans hPL
            have hv7 := HV.out.keepNo hBs7.fr
            have hO8 : Own w7 (Lab L7 w7 4) 23 1 v7 xs.length (us .u32 xs) := hO7
            obtain ⟨A7, c7, rfl, _, _⟩ := hO8.slice
            have hj2 : ((j : Int) == 2) = true := by rw [beq_iff_eq]; omega
            clear hL7 hO7 hsh CP lP K8 hf7 hE7
            go_wp2_with fail
            refine (Same32 _ _ _ _ _ xs hO8.rd hv7).mono ?_
            rintro e w8 ⟨rfl, hf8⟩
            go_wp2_with fail
            go_roundw
            case rel => exact ⟨j + 1, by omega, by go_num, L7, _, hBs7.no hf8, hA7.no hf8, hf8.keepNo hP7, hPL7, by omega⟩
            case measure => simp [intOf]; omega
        · obtain rfl : j = 3 := by omega
          rw [HE.out.2.2] at hBs
          obtain ⟨qs2, wss2, ws2, e0, hR2, e1, e3, hal2⟩ := hal1.take (by simp) (jobA false b 0 []) rfl rfl rfl rfl
          have C := hBs.cfg.cells
          have lB := hBs.cfg.lt
          clear hA hP hPL
          go_wp2_with fail
          refine (madeTake _ b 0 (.slice none 0 0) [] hBs (Rd.nil _ No _) (by simp) b1 b0 (fun j => by simp)).mono ?_
          rintro e w5 ⟨g2, r2, rfl, L5, hBs5, hA5, _, hf5⟩
          rw [← e0] at hA5
          have hv5 : APairOf (qs2 0).give g2 (.pointer (some ⟨g2, 0, none⟩)) (.pointer none) := .inr ⟨by rw [e0]; rfl, rfl, rfl⟩
          obtain ⟨wp2, hwp⟩ : ∃ wp2, wp2 = w5.alloc (.cells #[.pointer (some ⟨g2, 0, none⟩), .pointer none, .pointer (some ⟨r2, 0, none⟩)] 90) := ⟨_, rfl⟩
          have hf6 : Fr No w5 wp2 := by rw [hwp]; exact (Fr.refl No w5).alloc _
          have hBs6 := hBs5.no hf6
          have hA6 := hA5.no hf6
          have hM6 := hBs6.mem
          rw [← e1] at hM6
          have w6a : IntKind.u32.wrap n = n := IntWalk.u32_in _ (by omega)
          have C6 := hBs6.cfg.cells
          have l6 := hBs6.cfg.lt
          have C5 := hBs5.cfg.cells
          have l5 := hBs5.cfg.lt
          have HE2 := Lib.hid (And.intro e0 (And.intro e1 (And.intro e3 hwp)))
          clear e0 e1 e3 hwp C hf6 lB
          go_wp2_with fail
          rw [← HE2.out.2.2.2]
          refine (ends8p _ 3 qs2 wss2 1 n _ _ _ hv5 hA6 hM6 (by omega) (by omega) (by omega) hR2 (by decide) (by decide)).mono ?_
          rintro e w7 ⟨rfl, hL7⟩
          rw [HE2.out.2.1] at hM6
          obtain ⟨L7, hBs7⟩ := hBs6.alft hL7
          have hfin := hBs7.fr
          clear hL7 hv5 hA6 hM6 hBs6 hA5 hBs5 hf5 hBs7
          go_wp2_with fail
          go_ret
          exact ⟨rfl, hfin⟩
end Go.Proofs.Ytfglpigoljclbaa.H
