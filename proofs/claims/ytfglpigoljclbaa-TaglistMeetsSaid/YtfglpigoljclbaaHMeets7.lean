/- Law 7's TaglistMeets: in whatever turns threads go, no node is ever taken by two, and none is lost. -/
import Derived.Test.YtfglpigoljclbaaHMeetS
set_option linter.unusedVariables false
set_option linter.unusedSimpArgs false
namespace Go.Proofs.Ytfglpigoljclbaa.H
open Go.RowKit
attribute [local go_sem ↓] Go.wp_at_zero Go.wp_at_succ

/-- Ahead of a turn. -/
def MeetInv (w wr : World) (gB gm gh ga : Nat) (n t : Int) (i : Nat) : Prop :=
  ∃ L hs ps ms ws c ls cn, MeetSt w wr L gB gm gh ga n t hs ps ms ws c 4 ∧ MInv n t i ws ls cn (fun k => hl (hs.getD k 0)) ms ∧ c ≤ i ∧ ∀ k m, k < 4 → ms k = some m → m.give = false → hs.getD k 0 = 0

/-- Behind the begin of a turn: thread k has a machine. -/
def MeetMid (w wr : World) (gB gm gh ga : Nat) (n t : Int) (i k : Nat) : Prop :=
  ∃ L hs ps ms ws c ls cn m, ms k = some m ∧ MeetSt w wr L gB gm gh ga n t hs ps ms ws c 4 ∧ MInv n t i ws ls cn (fun k => hl (hs.getD k 0)) ms ∧ c ≤ i ∧ ∀ k m, k < 4 → ms k = some m → m.give = false → hs.getD k 0 = 0

theorem held_set {hs : List Int} {k : Nat} (hk : k < 4) (hh : hs.length = 4) (x : Int) : (fun j => hl ((hs.set k x).getD j 0)) = upd (fun j => hl (hs.getD j 0)) k (hl x) := by
  funext j
  rw [getD_set _ _ _ _ (by omega)]
  by_cases e : j = k
  · subst e; rw [upd_same, if_pos rfl]
  · rw [upd_ne _ _ e, if_neg e]

theorem heldBy_no {m m' : Mch} {l : List Int} (h : ¬ m'.st = 1) : heldBy m m' l = l := by rw [heldBy, if_neg h]
theorem upd_self {α : Type} (f : Nat → α) (k : Nat) : upd f k (f k) = f := by
  funext j
  by_cases e : j = k
  · subst e; rw [upd_same]
  · rw [upd_ne _ _ e]

set_option maxRecDepth 100000 in
set_option maxHeartbeats 8000000 in
theorem TaglistMeets_ (w : World) (S : Nat → Prop) (a t : Int) (ha : I64 a) (ht0 : 0 ≤ t) (ht1 : t < 4294967296) (vo : Value) (od : List Int) (ho : Rd w S vo (us .i64 od)) (hoi : ∀ j, I64 (od.getD j 0)) :
    Calls Try.prog 7 #[.int .i64 a, .int .u32 t, vo] w fun e w' => e = .returned (.bool true) ∧ Fr No w w' := by
  obtain ⟨a0, a1⟩ := ha
  have HO := Lib.hid ho
  have HOI := Lib.hid hoi
  obtain ⟨Ao, co, rfl, hco, hcom⟩ := ho.slice
  clear ho hoi
  have hol : od.length ≤ 9223372036854775807 := by unfold maxLen at hcom; omega
  go_enter Try.func7, Try.ntmps7
  go_wp2_with fail
  refine (shown7_ _).mono ?_
  rintro e w1 ⟨rfl, hf1⟩
  go_wp2_with fail
  refine (config7_ _ _ _ _ _ a0 a1 (by omega) (by omega) (by omega) (by omega)).mono ?_
  rintro e w2 ⟨rfl, hf2⟩
  rw [pick00.1, pick00.2]
  have hn := pickV_bd a 64 (by omega)
  obtain ⟨n, hnn⟩ : ∃ n, n = 1 + pickV a 64 := ⟨_, rfl⟩
  rw [← hnn]
  have hn1 : 1 ≤ n := by omega
  have hn2 : n ≤ 64 := by omega
  clear hnn hn
  have hfw2 := hf1.then hf2
  obtain ⟨gB, hgB⟩ : ∃ gB, gB = w2.heap.size := ⟨_, rfl⟩
  have hB2 := blk_at w2 (cs := #[.int .i64 n, .int .i64 0, .int .i64 0, .int .u32 t]) (t := 25) hgB
  clear hf1 hf2
  obtain ⟨N, hN⟩ : ∃ N : Nat, 2 + 2 * n + 0 + 0 = (N : Int) := ⟨(2 + 2 * n).toNat, by omega⟩
  have ok : cfgOk n 0 0 := by unfold cfgOk; omega
  have HN := Lib.hid hN
  have hN4 : 4 ≤ N := by omega
  have hN5 : N ≤ 130 := by omega
  clear hN
  go_wp2_with fail
  refine (Fresh_N _ n 0 0 t N HN.out ok ht0 ht1).mono ?_
  rintro e w3 ⟨gw, cw, rfl, hW3, hf3⟩
  rw [← hgB]
  have hB3 := hf3.keepNo hB2
  have hfw3 := (hfw2.alloc _).then hf3
  have hinv := fresh_inv hn1 hn2 ht0 ht1
  have hfl : (freshL n 0 0 t).length = N := by rw [freshL, tab_len]; have := HN.out; omega
  generalize freshL n 0 0 t = W0 at hW3 hinv hfl
  clear hfw2 hB2 hf3 hgB
  by_cases hlong : (300 : Int) < od.length
  · go_wp2_with fail
    go_ret
    exact ⟨rfl, hfw3⟩
  have hol2 : (od.length : Int) ≤ 300 := by omega
  have hol3 : od.length ≤ 300 := by omega
  go_wp2_with fail
  refine (New_yes _ _ W0 hW3.rd (by omega)).mono ?_
  rintro e w4 ⟨gm, rfl, hM4, hf4⟩
  have hM4 := hM4.born (fun _ => 0) 1
  have hB4 := hf4.keepNo hB3
  have hBs : Bs w w4 (re (fun _ => 0) w3 1) gB gm n t W0 0 :=
    ⟨hfw3.then hf4, (Old.zero w).ext (ext_re _ _ _) hfw3.size, hB4, by rw [re, if_pos hB3.lt], hM4⟩
  obtain ⟨L4, hL4⟩ : ∃ L4, L4 = re (fun _ => 0) w3 1 := ⟨_, rfl⟩
  rw [← hL4] at hBs
  clear hM4 hf4 hB3 hfw3 hW3 hfl hL4 hB4
  go_wp2_with (first
    | (at_make; (refine wp_make rfl _ _ 57 62 rfl (.agg #[.pointer none, .pointer none, .pointer none]) 24 Try.underlying57 info_pair .i64 .i64 _ _ 4 rfl rfl rfl rfl (by omega) (by simp only [maxLen]; omega) ?_); intro w6 hO6 hf6 hlt6)
    | (at_make; (refine wp_make rfl _ _ 41 23 rfl (.int .u32 0) 4 Try.underlying41 info23 .i64 .i64 _ _ 4 rfl rfl rfl rfl (by omega) (by simp only [maxLen]; omega) ?_); intro w5 hO5 hf5 hlt5))
  rw [made_tab] at hO5
  rw [pcells_made] at hO6
  have hI : MeetInv w w6 gB gm w4.heap.size w5.heap.size n t 0 := by
    have z4 := hBs.fr.size
    have z5 := hf5.size
    have z6 := hf6.size
    have e0 : ∀ j, (tab 4 (fun _ => 0)).getD j 0 = 0 := fun j => by
      by_cases hj : j < 4
      · exact tab_get _ _ _ hj
      · rw [List.getD_eq_getElem?_getD, List.getElem?_eq_none (by rw [tab_len]; omega)]; rfl
    have e1 : (fun _ => [] : Nat → List Int) = fun k => hl ((tab 4 (fun _ => 0)).getD k 0) := by funext k; rw [e0]; rfl
    rw [e1] at hinv
    refine ⟨re (re L4 w4 0) w5 0, tab 4 (fun _ => 0), fun _ => (.pointer none, .pointer none), fun _ => none, W0, 0, _, _, ⟨(hBs.re hf5 0).re hf6 0, (hO5.keepNo hf6).wide (fun i hi hl => ⟨?_, ?_, hl⟩), hO6.wide (fun i hi hl => ⟨?_, ?_, hl⟩), tab_len _ _, fun k hk _ => rfl⟩, hinv, Nat.le_refl _, fun k m _ h => by cases h⟩
    · simp only [New] at hi; simp only [re]; repeat' split
      all_goals omega
    · simp only [New] at hi; omega
    · simp only [New] at hi; simp only [re]; repeat' split
      all_goals omega
    · simp only [New] at hi; omega
  obtain ⟨gh, hgh⟩ : ∃ gh, gh = w4.heap.size := ⟨_, rfl⟩
  obtain ⟨ga, hga⟩ : ∃ ga, ga = w5.heap.size := ⟨_, rfl⟩
  rw [← hgh, ← hga] at hI ⊢
  clear hinv hBs hO5 hO6 hf5 hf6 hlt5 hlt6 hgh hga hlong hol
  go_loopw [15] (fun v15 wr => ∃ i : Nat, i ≤ od.length ∧ v15 = .int .i64 i ∧ MeetInv w wr gB gm gh ga n t i) (fun v15 _ => 300 - (intOf v15).toNat)
  case atStart => exact ⟨0, by omega, rfl, hI⟩
  case round =>
    clear hI
    obtain ⟨i, hi, rfl, L, hs, ps, ms, ws, c, ls, cn, hSt, hInv, hc, hTK⟩ := hrel
    by_cases hlt : i < od.length
    · obtain ⟨go, oo, co', hvo, _, _, hgo, hco⟩ := HO.out.at (by omega)
      cases hvo
      have hck := hco i hlt
      have hck2 := (hSt.bs.fr.cell (p := ⟨go, oo + i, none⟩) hgo id).trans hck
      clear hck hco
      obtain ⟨y, hy⟩ : ∃ y, y = od.getD i 0 := ⟨_, rfl⟩
      have hyi := HOI.out i
      rw [← hy] at hck2 hyi
      obtain ⟨hy0, hy1⟩ := hyi
      clear hy
      have hi1 : (i : Int) < od.length := by omega
      have hi0 : (0 : Int) ≤ (i : Int) := by omega
      go_wp2_with fail
      refine (pick7_ _ _ _ hy0 hy1 (by omega) (by omega)).mono ?_
      rintro e w8 ⟨rfl, rfl⟩
      have hq := pickV_bd y 4 (by omega)
      obtain ⟨k, hke⟩ : ∃ k : Nat, pickV y 4 = (k : Int) := ⟨(pickV y 4).toNat, by omega⟩
      rw [hke] at hq ⊢
      have hk4 : k < 4 := by omega
      have hk4i : (k : Int) < 4 := by omega
      have hk0 : (0 : Int) ≤ (k : Int) := by omega
      clear hq hke
      obtain ⟨c0, c1, c2, c3, fa, fh, nah, la, lh⟩ := hSt.cells hk4
      go_upto_region 15 with (fail)
      go_cut [83] (fun v83 wx => wr = wx ∧ v83 = .bool (ms k).isNone)
      case first =>
        have hsl := hSt.slot k hk4 (by omega)
        cases hmk : ms k with
        | none =>
          have HM := Lib.hid hmk
          rw [hmk] at hsl
          have hsl : ps k = (.pointer none, .pointer none) := hsl
          rw [hsl] at c0 c1
          clear hmk hsl
          go_wp2_with fail
          go_meet
          exact ⟨rfl, by rw [HM.out]; rfl⟩
        | some m =>
          have HM := Lib.hid hmk
          rw [hmk] at hsl
          obtain ⟨g, hp, _, hp2⟩ := hsl
          rcases hp with ⟨hg, hp⟩ | ⟨hg, hp, hp3⟩
          · rw [hp] at c1
            rw [hp2 hg] at c0
            clear hmk hp hp2
            go_wp2_with fail
            go_meet
            exact ⟨rfl, by rw [HM.out]; rfl⟩
          · rw [hp] at c1
            rw [hp3] at c0
            clear hmk hp hp2 hp3
            go_wp2_with fail
            go_meet
            exact ⟨rfl, by rw [HM.out]; rfl⟩
      case rest =>
        obtain ⟨rfl, rfl⟩ := hcut
        obtain ⟨tb, htb⟩ : ∃ tb, tb = (ms k).isNone := ⟨_, rfl⟩
        rw [← htb]
        have HTB := Lib.hid htb
        clear htb
        go_upto_if 83 with (fail)
        go_cut [] (fun wx => MeetMid w wx gB gm gh ga n t i k)
        case first =>
          cases tb with
          | false =>
            go_wp2_with fail
            go_meet
            have h1 := HTB.out
            cases hmk : ms k with
            | none => rw [hmk] at h1; cases h1
            | some m => exact ⟨L, hs, ps, ms, ws, c, ls, cn, m, hmk, hSt, hInv, hc, hTK⟩
          | true =>
            have hmk : ms k = none := by
              have h1 := HTB.out
              cases h : ms k with
              | none => rfl
              | some m => rw [h] at h1; cases h1
            have HMK := Lib.hid hmk
            clear hmk
            obtain ⟨p, hpe⟩ : ∃ p, p = bits BinOp.and IntKind.i64 (y.tdiv 4) 1 := ⟨_, rfl⟩
            have hp := and_one_i64 (y.tdiv 4)
            rw [← hpe] at hp
            have HP := Lib.hid hpe
            clear hpe
            go_upto_region 17 with (fail)
            rw [← HP.out]
            obtain ⟨z, hz⟩ : ∃ z, z = hs.getD k 0 := ⟨_, rfl⟩
            rw [← hz] at c3
            have HZ := Lib.hid hz
            clear hz
            have CB := hSt.bs.cfg.cells
            by_cases hz0 : z = 0
            · subst hz0
              go_wp2_with fail
              refine (NewTake_ _ n 0 0 t p).mono ?_
              rintro e w9 ⟨gt, rfl, hX9, hf9⟩
              have hX9 := hX9.born L (3 + k)
              have hSt9 := hSt.re hf9 (3 + k)
              obtain ⟨d0, d1, d2, d3, fa9, fh9, _, la9, lh9⟩ := hSt9.cells hk4
              clear c0 c1 c2 c3 fa fh CB
              go_wp2_with fail
              go_meet
              refine ⟨_, hs, _, _, ws, c, ls, cn, ⟨false, p, 0, 0, 0, 0, 0⟩, upd_same _ _ _, hSt9.put (.inl rfl) hk4 _ _ (some ⟨false, p, 0, 0, 0, 0, 0⟩) ⟨gt, .inr ⟨rfl, rfl, rfl⟩, hX9, fun h => by cases h⟩, hInv.newTake k hp, hc, fun j m hj hm hg => ?_⟩
              by_cases e : j = k
              · subst e; exact HZ.out.symm
              · rw [upd_ne _ _ e] at hm; exact hTK j m hj hm hg
            · have hz1 : (z == 0) = false := by simpa using hz0
              have hin : z ∈ hl (hs.getD k 0) := by rw [← HZ.out, hl, if_neg hz0]; simp
              have hz2 := hInv.own_in hk4 (x := z) hin
              obtain ⟨b0, b1⟩ := hz2
              have HIN := Lib.hid hin
              have q0 := CB 0
              have q1 := CB 1
              have q2 := CB 2
              have q3 := CB 3
              simp at q0 q1 q2 q3
              have lB := hSt.bs.cfg.lt
              obtain ⟨cur, hBp⟩ := hSt.blk_pairs
              have n1 : gB ≠ ga := blk_ne hSt.bs.cfg hBp (by decide)
              have n2 := Ne.symm n1
              have n3 := Ne.symm nah
              clear hin CB hz0 hBp
              go_upto_region 19 with (fail)
              go_cut [] (fun wx => ∃ g w9, Fr No wr w9 ∧ MchAt w9 (New wr.heap.size) g n 0 0 t ⟨true, p, z, 0, 0, 0, 0⟩ ∧ wx = ((w9.setCell ⟨ga, k * 3, none⟩ (.pointer none)).setCell ⟨ga, k * 3 + 1, none⟩ (.pointer (some ⟨g, 0, none⟩))).setCell ⟨ga, k * 3 + 2, none⟩ (.pointer none))
              case first =>
                go_region_held3 (fun w' => w'.cell? ⟨gB, 0, none⟩ = some (.int .i64 n) ∧ w'.cell? ⟨gB, 1, none⟩ = some (.int .i64 0) ∧ w'.cell? ⟨gB, 2, none⟩ = some (.int .i64 0) ∧ w'.cell? ⟨gB, 3, none⟩ = some (.int .u32 t) ∧ w'.cell? ⟨gh, k, none⟩ = some (.int .u32 z)) (first | (go_keep; done) | (go_split_ands; (repeat' apply And.intro) <;> first | assumption | (refine (Fr.cell (S := No) (by assumption) (by first | (simp; done) | (simp; omega) | omega) id).trans ?_; first | assumption | (simp; done) | (simp; assumption)) | (refine (Fr.frozen (S := No) (by assumption) (by first | (simp; done) | (simp; omega) | omega) id).trans ?_; first | assumption | (simp; done) | (simp; assumption))))
                  ((go_at_call 47; refine (NewGive_ _ n 0 0 t p z (by omega) (by omega)).mono ?_; rintro e w9 ⟨gg, rfl, hX9, hf9⟩; have hSt9 := hSt.re (((Fr.refl No wr).drew).then hf9) (3 + k); obtain ⟨d0, d1, d2, d3, fa9, fh9, _, la9, lh9⟩   := hSt9.cells hk4; rw [← HZ.out] at d3))
                all_goals
                  go_wp2_with fail
                  go_meet
                  exact ⟨gg, w9, ((Fr.refl No wr).drew).then hf9, hX9, rfl⟩
              case rest =>
                obtain ⟨gg, w9, hf9, hX9, rfl⟩ := hcut
                have hX9 := hX9.born L (3 + k)
                have hSt9 := (hSt.re hf9 (3 + k)).put (.inl rfl) hk4 (.pointer none) (.pointer (some ⟨gg, 0, none⟩)) (some ⟨true, p, z, 0, 0, 0, 0⟩) ⟨gg, .inl ⟨rfl, rfl⟩, hX9, fun _ => rfl⟩
                have HS9 := Lib.hid hSt9
                generalize ((w9.setCell ⟨ga, k * 3, none⟩ (.pointer none)).setCell ⟨ga, k * 3 + 1, none⟩ (.pointer (some ⟨gg, 0, none⟩))).setCell ⟨ga, k * 3 + 2, none⟩ (.pointer none) = wz at hSt9 HS9 ⊢
                obtain ⟨d0, d1, d2, d3, fa9, fh9, _, la9, lh9⟩ := hSt9.cells hk4
                rw [upd_same] at d0 d1
                simp only at d0 d1
                clear c0 c1 c2 c3 fa fh q0 q1 q2 q3 lB hSt9
                go_wp2_with fail
                go_meet
                refine ⟨_, hs, _, _, ws, c, ls, cn, ⟨true, p, z, 0, 0, 0, 0⟩, upd_same _ _ _, HS9.out, hInv.newGive hk4 hp HIN.out, hc, fun j m hj hm hg => ?_⟩
                by_cases e : j = k
                · subst e; rw [upd_same] at hm; cases hm; cases hg
                · rw [upd_ne _ _ e] at hm; exact hTK j m hj hm hg
        case rest =>
          obtain ⟨L, hs, ps, ms, ws, c, ls, cn, m, hmk, hSt, hInv, hc, hTK⟩ := hcut
          have hsl := hSt.slot k hk4 (by omega)
          rw [hmk] at hsl
          obtain ⟨g, hp, hX, hpt⟩ := hsl
          obtain ⟨m', ws', ls', cn', hgo, hInv', hge, hcase⟩ := meet_step hInv (by omega) hk4 hmk c
          obtain ⟨P1, hP1⟩ : ∃ P1, (ps k).2 = .pointer P1 := by
            rcases hp with ⟨_, h⟩ | ⟨_, h, _⟩
            · exact ⟨_, h⟩
            · exact ⟨_, h⟩
          have hgv : m.give = true → P1 = some ⟨g, 0, none⟩ := fun h => by
            rcases hp with ⟨_, h'⟩ | ⟨h', _⟩
            · rw [h'] at hP1; cases hP1; rfl
            · rw [h] at h'; cases h'
          have htv : m.give = false → P1 = none := fun h => by
            rcases hp with ⟨h', _⟩ | ⟨_, h', _⟩
            · rw [h] at h'; cases h'
            · rw [h'] at hP1; cases hP1; rfl
          obtain ⟨c0, c1, c2, c3, fa, fh, nah, la, lh⟩ := hSt.cells hk4
          rw [hP1] at c1
          have hpl := hInv.pl
          have K := Lib.hid (fun st td h1 h2 => (pstep_ _ (ps k).1 (.pointer P1) (.pointer none) (hP1 ▸ hp) hX (by omega) hSt.bs.mem (by omega) hpl.words).mono fun e w' h => h.to (st := st) (td := td) hgo h1 h2)
          have HMI := Lib.hid (show m.give = true → (hl (hs.getD k 0)).erase m.i = hl 0 from fun h => by
            have h2 := ((hInv.mach k m hk4 hmk).gives h).1
            have h3 := hl_mem h2
            have h2 : m.i ∈ hl (hs.getD k 0) := h2
            rw [← h3] at h2 ⊢
            unfold hl at h2 ⊢
            split at h2
            · cases h2
            · rw [if_neg (by assumption), if_pos rfl]; simp)
          have HMK := Lib.hid hmk
          have HTK := Lib.hid hTK
          have HI := Lib.hid hInv'
          have HP1 := Lib.hid hP1
          have HPT := Lib.hid hpt
          have HGV := Lib.hid hgv
          have HTV := Lib.hid htv
          have HGE := Lib.hid hge
          obtain ⟨v0, hv0⟩ : ∃ v0, v0 = (ps k).1 := ⟨_, rfl⟩
          rw [← hv0] at c0 K
          have HV0 := Lib.hid hv0
          clear hmk hTK hInv' hP1 hpt hgv htv hge hgo hInv hv0
          rcases hcase with h0 | h3 | ⟨h2, hg, hi0⟩ | ⟨h1, hg, hi1, hi2⟩ | ⟨h1, hg, hi1⟩
          · have hK := K.out 0 0 h0 (told_run h0)
            have HK := Lib.hid hK
            clear hK K
            go_wp2_with fail
            refine HK.out.mono ?_
            rintro e w9 ⟨rfl, hL9⟩
            obtain ⟨L9, hSt9, hX9⟩ := hSt.left (.inl rfl) hL9
            obtain ⟨d0, d1, d2, d3, fa9, fh9, _, la9, lh9⟩ := hSt9.cells hk4
            rw [HP1.out] at d1
            go_upto_region 32 with (fail)
            have hF : MeetInv w w9 gB gm gh ga n t (i + 1) := by
              have h := HI.out
              rw [if_pos h0, heldBy_no (by omega), upd_self] at h
              exact ⟨L9, hs, ps, _, ws', c + 1, ls', cn', hSt9.fit (some m') ⟨g, (PairOf.to hp HGE.out), hX9, fun h => HPT.out (HGE.out ▸ h)⟩, h, by omega, fun j m1 hj hm hg1 => by
                by_cases e : j = k
                · subst e; rw [upd_same] at hm; cases hm; exact HTK.out j m hj HMK.out (HGE.out ▸ hg1)
                · rw [upd_ne _ _ e] at hm; exact HTK.out j m1 hj hm hg1⟩
            clear d0 d1 d2 d3 fa9 fh9 hSt9 hX9 hSt HK HI HP1 HPT HGV HTV HGE HV0 c0 c1 c2 c3 fa fh la lh
            obtain ⟨wz, hwz⟩ : ∃ wz, wz = w9 := ⟨_, rfl⟩
            rw [← hwz] at hF ⊢
            clear hwz
            obtain ⟨L, hs, ps, ms, ws, c, ls, cn, hSt, hInv, hc, hTK⟩ := hF
            have hl2 : ws.length = N := by have := hInv.pl.len; have := HN.out; omega
            obtain ⟨r0, r1, r2, r3, r4, r5⟩ := meet_whole hInv hSt.hlen
            have HL2 := Lib.hid hl2
            have HR := Lib.hid (And.intro r0 (And.intro r1 (And.intro r2 (And.intro r3 (And.intro r4 r5)))))
            have CB := hSt.bs.cfg.cells
            have q0 := CB 0
            have q1 := CB 1
            have q2 := CB 2
            have q3 := CB 3
            simp at q0 q1 q2 q3
            have lB := hSt.bs.cfg.lt
            clear hl2 r0 r1 r2 r3 r4 r5 CB
            go_region_held3 (fun w' => w'.cell? ⟨gB, 0, none⟩ = some (.int .i64 n) ∧ w'.cell? ⟨gB, 1, none⟩ = some (.int .i64 0) ∧ w'.cell? ⟨gB, 2, none⟩ = some (.int .i64 0) ∧ w'.cell? ⟨gB, 3, none⟩ = some (.int .u32 t)) (first | (go_keep; done) | (go_split_ands; (repeat' apply And.intro) <;> first | assumption | (refine (Fr.cell (S := No) (by assumption) (by first | (simp; done) | (simp; omega) | omega) id).trans ?_; first | assumption | (simp; done) | (simp; assumption)) | (refine (Fr.frozen (S := No) (by assumption) (by first | (simp; done) | (simp; omega) | omega) id).trans ?_; first | assumption | (simp; done) | (simp; assumption))))
              (first | ((go_at_call 43; refine (Words_at _ (hSt.no ((Fr.refl No wz).drew)).bs.mem N HL2.out (by omega) (by omega)).mono ?_; rintro e w17 ⟨g17, c17, rfl, hO17, hf17⟩; have hSt17 := hSt.no (((Fr.refl No wz).drew).then hf17); have lB17 := hSt17.bs.cfg.lt)) | ((go_at_call 49; refine (whole7_ _ n t ws hs _ _ N hInv.pl HL2.out hO17 hSt17.held hSt17.hlen HR.out.2.2.2.2.2 HR.out.1 HR.out.2.1 _ rfl HR.out.2.2.1 HR.out.2.2.2.1 HR.out.2.2.2.2.1).mono ?_; rintro e w18 ⟨rfl, hf18⟩)))
            go_wp2_with fail
            go_roundw
            case rel => exact ⟨i + 1, by omega, by go_num, L, hs, ps, ms, ws, c, ls, cn, hSt17.no hf18, hInv, hc, hTK⟩
            case measure => simp [intOf]; omega
          · have hK := K.out 3 0 h3 (told_not (by omega))
            have HK := Lib.hid hK
            clear hK K
            go_wp2_with fail
            refine HK.out.mono ?_
            rintro e w9 ⟨rfl, hL9⟩
            obtain ⟨L9, hSt9, hX9⟩ := hSt.left (.inl rfl) hL9
            obtain ⟨d0, d1, d2, d3, fa9, fh9, _, la9, lh9⟩ := hSt9.cells hk4
            rw [HP1.out] at d1
            go_upto_region 28 with (fail)
            have hSt10 := hSt9.put (.inr rfl) hk4 (.pointer none) (.pointer none) none rfl
            generalize ((w9.setCell ⟨ga, k * 3, none⟩ (.pointer none)).setCell ⟨ga, k * 3 + 1, none⟩ (.pointer none)).setCell ⟨ga, k * 3 + 2, none⟩ (.pointer none) = wz at hSt10 ⊢
            clear d0 d1 d2 d3 fa9 fh9 hSt9 hX9
            go_upto_region 32 with (fail)
            have hF : MeetInv w wz gB gm gh ga n t (i + 1) := by
              have h := HI.out
              rw [if_neg (by omega), heldBy_no (by omega), upd_self] at h
              exact ⟨L9, _, _, _, ws', c + 1, ls', cn', hSt10, h, by omega, fun j m1 hj hm hg1 => by
                by_cases e : j = k
                · subst e; rw [upd_same] at hm; cases hm
                · rw [upd_ne _ _ e] at hm; exact HTK.out j m1 hj hm hg1⟩
            clear hSt HK HI HP1 HPT HGV HTV HGE HV0
            obtain ⟨L, hs, ps, ms, ws, c, ls, cn, hSt, hInv, hc, hTK⟩ := hF
            have hl2 : ws.length = N := by have := hInv.pl.len; have := HN.out; omega
            obtain ⟨r0, r1, r2, r3, r4, r5⟩ := meet_whole hInv hSt.hlen
            have HL2 := Lib.hid hl2
            have HR := Lib.hid (And.intro r0 (And.intro r1 (And.intro r2 (And.intro r3 (And.intro r4 r5)))))
            have CB := hSt.bs.cfg.cells
            have q0 := CB 0
            have q1 := CB 1
            have q2 := CB 2
            have q3 := CB 3
            simp at q0 q1 q2 q3
            have lB := hSt.bs.cfg.lt
            clear hl2 r0 r1 r2 r3 r4 r5 CB
            go_region_held3 (fun w' => w'.cell? ⟨gB, 0, none⟩ = some (.int .i64 n) ∧ w'.cell? ⟨gB, 1, none⟩ = some (.int .i64 0) ∧ w'.cell? ⟨gB, 2, none⟩ = some (.int .i64 0) ∧ w'.cell? ⟨gB, 3, none⟩ = some (.int .u32 t)) (first | (go_keep; done) | (go_split_ands; (repeat' apply And.intro) <;> first | assumption | (refine (Fr.cell (S := No) (by assumption) (by first | (simp; done) | (simp; omega) | omega) id).trans ?_; first | assumption | (simp; done) | (simp; assumption)) | (refine (Fr.frozen (S := No) (by assumption) (by first | (simp; done) | (simp; omega) | omega) id).trans ?_; first | assumption | (simp; done) | (simp; assumption))))
              (first | ((go_at_call 43; refine (Words_at _ (hSt.no ((Fr.refl No wz).drew)).bs.mem N HL2.out (by omega) (by omega)).mono ?_; rintro e w17 ⟨g17, c17, rfl, hO17, hf17⟩; have hSt17 := hSt.no (((Fr.refl No wz).drew).then hf17); have lB17 := hSt17.bs.cfg.lt)) | ((go_at_call 49; refine (whole7_ _ n t ws hs _ _ N hInv.pl HL2.out hO17 hSt17.held hSt17.hlen HR.out.2.2.2.2.2 HR.out.1 HR.out.2.1 _ rfl HR.out.2.2.1 HR.out.2.2.2.1 HR.out.2.2.2.2.1).mono ?_; rintro e w18 ⟨rfl, hf18⟩)))
            go_wp2_with fail
            go_roundw
            case rel => exact ⟨i + 1, by omega, by go_num, L, hs, ps, ms, ws, c, ls, cn, hSt17.no hf18, hInv, hc, hTK⟩
            case measure => simp [intOf]; omega
          · have hP0 := HTV.out hg
            subst hP0
            have hK := K.out 2 0 h2 (told_not (by omega))
            have HK := Lib.hid hK
            clear hK K
            go_wp2_with fail
            refine HK.out.mono ?_
            rintro e w9 ⟨rfl, hL9⟩
            obtain ⟨L9, hSt9, hX9⟩ := hSt.left (.inl rfl) hL9
            obtain ⟨d0, d1, d2, d3, fa9, fh9, _, la9, lh9⟩ := hSt9.cells hk4
            rw [HP1.out] at d1
            go_upto_region 28 with (fail)
            have hSt10 := hSt9.put (.inr rfl) hk4 (.pointer none) (.pointer none) none rfl
            generalize ((w9.setCell ⟨ga, k * 3, none⟩ (.pointer none)).setCell ⟨ga, k * 3 + 1, none⟩ (.pointer none)).setCell ⟨ga, k * 3 + 2, none⟩ (.pointer none) = wz at hSt10 ⊢
            clear d0 d1 d2 d3 fa9 fh9 hSt9 hX9
            go_upto_region 32 with (fail)
            have hF : MeetInv w wz gB gm gh ga n t (i + 1) := by
              have h := HI.out
              rw [if_neg (by omega), heldBy_no (by omega), upd_self] at h
              exact ⟨L9, _, _, _, ws', c + 1, ls', cn', hSt10, h, by omega, fun j m1 hj hm hg1 => by
                by_cases e : j = k
                · subst e; rw [upd_same] at hm; cases hm
                · rw [upd_ne _ _ e] at hm; exact HTK.out j m1 hj hm hg1⟩
            clear hSt HK HI HP1 HPT HGV HTV HGE HV0
            obtain ⟨L, hs, ps, ms, ws, c, ls, cn, hSt, hInv, hc, hTK⟩ := hF
            have hl2 : ws.length = N := by have := hInv.pl.len; have := HN.out; omega
            obtain ⟨r0, r1, r2, r3, r4, r5⟩ := meet_whole hInv hSt.hlen
            have HL2 := Lib.hid hl2
            have HR := Lib.hid (And.intro r0 (And.intro r1 (And.intro r2 (And.intro r3 (And.intro r4 r5)))))
            have CB := hSt.bs.cfg.cells
            have q0 := CB 0
            have q1 := CB 1
            have q2 := CB 2
            have q3 := CB 3
            simp at q0 q1 q2 q3
            have lB := hSt.bs.cfg.lt
            clear hl2 r0 r1 r2 r3 r4 r5 CB
            go_region_held3 (fun w' => w'.cell? ⟨gB, 0, none⟩ = some (.int .i64 n) ∧ w'.cell? ⟨gB, 1, none⟩ = some (.int .i64 0) ∧ w'.cell? ⟨gB, 2, none⟩ = some (.int .i64 0) ∧ w'.cell? ⟨gB, 3, none⟩ = some (.int .u32 t)) (first | (go_keep; done) | (go_split_ands; (repeat' apply And.intro) <;> first | assumption | (refine (Fr.cell (S := No) (by assumption) (by first | (simp; done) | (simp; omega) | omega) id).trans ?_; first | assumption | (simp; done) | (simp; assumption)) | (refine (Fr.frozen (S := No) (by assumption) (by first | (simp; done) | (simp; omega) | omega) id).trans ?_; first | assumption | (simp; done) | (simp; assumption))))
              (first | ((go_at_call 43; refine (Words_at _ (hSt.no ((Fr.refl No wz).drew)).bs.mem N HL2.out (by omega) (by omega)).mono ?_; rintro e w17 ⟨g17, c17, rfl, hO17, hf17⟩; have hSt17 := hSt.no (((Fr.refl No wz).drew).then hf17); have lB17 := hSt17.bs.cfg.lt)) | ((go_at_call 49; refine (whole7_ _ n t ws hs _ _ N hInv.pl HL2.out hO17 hSt17.held hSt17.hlen HR.out.2.2.2.2.2 HR.out.1 HR.out.2.1 _ rfl HR.out.2.2.1 HR.out.2.2.2.1 HR.out.2.2.2.2.1).mono ?_; rintro e w18 ⟨rfl, hf18⟩)))
            go_wp2_with fail
            go_roundw
            case rel => exact ⟨i + 1, by omega, by go_num, L, hs, ps, ms, ws, c, ls, cn, hSt17.no hf18, hInv, hc, hTK⟩
            case measure => simp [intOf]; omega
          · have hP0 := HTV.out hg
            subst hP0
            obtain ⟨x, hx⟩ : ∃ x, x = m'.i := ⟨_, rfl⟩
            rw [← hx] at hi1 hi2
            have HX := Lib.hid hx
            clear hx
            have hK := K.out 1 x h1 ((told_done h1).trans HX.out.symm)
            have HK := Lib.hid hK
            clear hK K
            go_wp2_with fail
            refine HK.out.mono ?_
            rintro e w9 ⟨rfl, hL9⟩
            obtain ⟨L9, hSt9, hX9⟩ := hSt.left (.inl rfl) hL9
            obtain ⟨d0, d1, d2, d3, fa9, fh9, _, la9, lh9⟩ := hSt9.cells hk4
            rw [HP1.out] at d1
            go_upto_region 28 with (fail)
            have hSt10 := hSt9.put (.inr rfl) hk4 (.pointer none) (.pointer none) none rfl
            generalize ((w9.setCell ⟨ga, k * 3, none⟩ (.pointer none)).setCell ⟨ga, k * 3 + 1, none⟩ (.pointer none)).setCell ⟨ga, k * 3 + 2, none⟩ (.pointer none) = wz at hSt10 ⊢
            clear d0 d1 d2 d3 fa9 fh9 hSt9 hX9
            obtain ⟨d0, d1, d2, d3, fa9, fh9, _, la9, lh9⟩ := hSt10.cells hk4
            go_upto_region 32 with (fail)
            have hSt11 := hSt10.hold hk4 x
            generalize wz.setCell ⟨gh, k, none⟩ (.int .u32 x) = wy at hSt11 ⊢
            obtain ⟨wz, hwz⟩ : ∃ wz, wz = wy := ⟨_, rfl⟩
            rw [← hwz] at hSt11 ⊢
            clear hwz d0 d1 d2 d3 fa9 fh9 hSt10
            have hF : MeetInv w wz gB gm gh ga n t (i + 1) := by
              have h := HI.out
              rw [if_neg (by omega), heldBy, if_pos h1, if_neg (by rw [hg]; decide), ← HX.out, show hl (hs.getD k 0) = [] by rw [HTK.out k m hk4 HMK.out hg]; rfl, show [x] = hl x by rw [hl, if_neg (by omega)], ← held_set hk4 hSt.hlen] at h
              exact ⟨L9, _, _, _, ws', c + 1, ls', cn', hSt11, h, by omega, fun j m1 hj hm hg1 => by
                by_cases e : j = k
                · subst e; rw [upd_same] at hm; cases hm
                · rw [upd_ne _ _ e] at hm; rw [getD_set _ _ _ _ (by have := hSt.hlen; omega), if_neg e]; exact HTK.out j m1 hj hm hg1⟩
            clear hSt HK HI HP1 HPT HGV HTV HGE HV0
            obtain ⟨L, hs, ps, ms, ws, c, ls, cn, hSt, hInv, hc, hTK⟩ := hF
            have hl2 : ws.length = N := by have := hInv.pl.len; have := HN.out; omega
            obtain ⟨r0, r1, r2, r3, r4, r5⟩ := meet_whole hInv hSt.hlen
            have HL2 := Lib.hid hl2
            have HR := Lib.hid (And.intro r0 (And.intro r1 (And.intro r2 (And.intro r3 (And.intro r4 r5)))))
            have CB := hSt.bs.cfg.cells
            have q0 := CB 0
            have q1 := CB 1
            have q2 := CB 2
            have q3 := CB 3
            simp at q0 q1 q2 q3
            have lB := hSt.bs.cfg.lt
            clear hl2 r0 r1 r2 r3 r4 r5 CB
            go_region_held3 (fun w' => w'.cell? ⟨gB, 0, none⟩ = some (.int .i64 n) ∧ w'.cell? ⟨gB, 1, none⟩ = some (.int .i64 0) ∧ w'.cell? ⟨gB, 2, none⟩ = some (.int .i64 0) ∧ w'.cell? ⟨gB, 3, none⟩ = some (.int .u32 t)) (first | (go_keep; done) | (go_split_ands; (repeat' apply And.intro) <;> first | assumption | (refine (Fr.cell (S := No) (by assumption) (by first | (simp; done) | (simp; omega) | omega) id).trans ?_; first | assumption | (simp; done) | (simp; assumption)) | (refine (Fr.frozen (S := No) (by assumption) (by first | (simp; done) | (simp; omega) | omega) id).trans ?_; first | assumption | (simp; done) | (simp; assumption))))
              (first | ((go_at_call 43; refine (Words_at _ (hSt.no ((Fr.refl No wz).drew)).bs.mem N HL2.out (by omega) (by omega)).mono ?_; rintro e w17 ⟨g17, c17, rfl, hO17, hf17⟩; have hSt17 := hSt.no (((Fr.refl No wz).drew).then hf17); have lB17 := hSt17.bs.cfg.lt)) | ((go_at_call 49; refine (whole7_ _ n t ws hs _ _ N hInv.pl HL2.out hO17 hSt17.held hSt17.hlen HR.out.2.2.2.2.2 HR.out.1 HR.out.2.1 _ rfl HR.out.2.2.1 HR.out.2.2.2.1 HR.out.2.2.2.2.1).mono ?_; rintro e w18 ⟨rfl, hf18⟩)))
            go_wp2_with fail
            go_roundw
            case rel => exact ⟨i + 1, by omega, by go_num, L, hs, ps, ms, ws, c, ls, cn, hSt17.no hf18, hInv, hc, hTK⟩
            case measure => simp [intOf]; omega
          · have hP0 := HGV.out hg
            subst hP0
            obtain ⟨x, hx⟩ : ∃ x, x = m'.i := ⟨_, rfl⟩
            rw [← hx] at hi1
            have HX := Lib.hid hx
            have HI1 := Lib.hid hi1
            clear hx hi1
            have hK := K.out 1 x h1 ((told_done h1).trans HX.out.symm)
            have HK := Lib.hid hK
            clear hK K
            go_wp2_with fail
            refine HK.out.mono ?_
            rintro e w9 ⟨rfl, hL9⟩
            obtain ⟨L9, hSt9, hX9⟩ := hSt.left (.inl rfl) hL9
            obtain ⟨d0, d1, d2, d3, fa9, fh9, _, la9, lh9⟩ := hSt9.cells hk4
            rw [HP1.out] at d1
            go_upto_region 28 with (fail)
            have hSt10 := hSt9.put (.inr rfl) hk4 (.pointer none) (.pointer none) none rfl
            generalize ((w9.setCell ⟨ga, k * 3, none⟩ (.pointer none)).setCell ⟨ga, k * 3 + 1, none⟩ (.pointer none)).setCell ⟨ga, k * 3 + 2, none⟩ (.pointer none) = wz at hSt10 ⊢
            clear d0 d1 d2 d3 fa9 fh9 hSt9 hX9
            obtain ⟨d0, d1, d2, d3, fa9, fh9, _, la9, lh9⟩ := hSt10.cells hk4
            go_upto_region 32 with (fail)
            have hSt11 := hSt10.hold hk4 0
            generalize wz.setCell ⟨gh, k, none⟩ (.int .u32 0) = wy at hSt11 ⊢
            obtain ⟨wz, hwz⟩ : ∃ wz, wz = wy := ⟨_, rfl⟩
            rw [← hwz] at hSt11 ⊢
            clear hwz d0 d1 d2 d3 fa9 fh9 hSt10
            have hF : MeetInv w wz gB gm gh ga n t (i + 1) := by
              have h := HI.out
              rw [if_neg (by omega), heldBy, if_pos h1, if_pos hg, HMI.out hg, ← held_set hk4 hSt.hlen] at h
              exact ⟨L9, _, _, _, ws', c + 1, ls', cn', hSt11, h, by omega, fun j m1 hj hm hg1 => by
                by_cases e : j = k
                · subst e; rw [upd_same] at hm; cases hm
                · rw [upd_ne _ _ e] at hm; rw [getD_set _ _ _ _ (by have := hSt.hlen; omega), if_neg e]; exact HTK.out j m1 hj hm hg1⟩
            clear hSt HK HI HP1 HPT HGV HTV HGE HV0
            obtain ⟨L, hs, ps, ms, ws, c, ls, cn, hSt, hInv, hc, hTK⟩ := hF
            have hl2 : ws.length = N := by have := hInv.pl.len; have := HN.out; omega
            obtain ⟨r0, r1, r2, r3, r4, r5⟩ := meet_whole hInv hSt.hlen
            have HL2 := Lib.hid hl2
            have HR := Lib.hid (And.intro r0 (And.intro r1 (And.intro r2 (And.intro r3 (And.intro r4 r5)))))
            have CB := hSt.bs.cfg.cells
            have q0 := CB 0
            have q1 := CB 1
            have q2 := CB 2
            have q3 := CB 3
            simp at q0 q1 q2 q3
            have lB := hSt.bs.cfg.lt
            clear hl2 r0 r1 r2 r3 r4 r5 CB
            go_region_held3 (fun w' => w'.cell? ⟨gB, 0, none⟩ = some (.int .i64 n) ∧ w'.cell? ⟨gB, 1, none⟩ = some (.int .i64 0) ∧ w'.cell? ⟨gB, 2, none⟩ = some (.int .i64 0) ∧ w'.cell? ⟨gB, 3, none⟩ = some (.int .u32 t)) (first | (go_keep; done) | (go_split_ands; (repeat' apply And.intro) <;> first | assumption | (refine (Fr.cell (S := No) (by assumption) (by first | (simp; done) | (simp; omega) | omega) id).trans ?_; first | assumption | (simp; done) | (simp; assumption)) | (refine (Fr.frozen (S := No) (by assumption) (by first | (simp; done) | (simp; omega) | omega) id).trans ?_; first | assumption | (simp; done) | (simp; assumption))))
              (first | ((go_at_call 43; refine (Words_at _ (hSt.no ((Fr.refl No wz).drew)).bs.mem N HL2.out (by omega) (by omega)).mono ?_; rintro e w17 ⟨g17, c17, rfl, hO17, hf17⟩; have hSt17 := hSt.no (((Fr.refl No wz).drew).then hf17); have lB17 := hSt17.bs.cfg.lt)) | ((go_at_call 49; refine (whole7_ _ n t ws hs _ _ N hInv.pl HL2.out hO17 hSt17.held hSt17.hlen HR.out.2.2.2.2.2 HR.out.1 HR.out.2.1 _ rfl HR.out.2.2.1 HR.out.2.2.2.1 HR.out.2.2.2.2.1).mono ?_; rintro e w18 ⟨rfl, hf18⟩)))
            go_wp2_with fail
            go_roundw
            case rel => exact ⟨i + 1, by omega, by go_num, L, hs, ps, ms, ws, c, ls, cn, hSt17.no hf18, hInv, hc, hTK⟩
            case measure => simp [intOf]; omega
    · have hie : i = od.length := by omega
      have hi1 : ¬ (i : Int) < od.length := by omega
      clear hie
      go_wp2_with fail
      go_ret
      exact ⟨rfl, hSt.bs.fr⟩
end Go.Proofs.Ytfglpigoljclbaa.H
