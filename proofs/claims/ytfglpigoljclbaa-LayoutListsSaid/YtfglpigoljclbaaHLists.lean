/- Law 6's LayoutLists: nodes that are written one behind the other are the list that is told; one more link back makes none of it. -/
import Derived.Test.YtfglpigoljclbaaHWrote
import Derived.Test.YtfglpigoljclbaaHSame
import Derived.Test.YtfglpigoljclbaaHPick
set_option linter.unusedVariables false
set_option linter.unusedSimpArgs false
namespace Go.Proofs.Ytfglpigoljclbaa.H
open Go.RowKit
attribute [local go_sem ↓] Go.wp_at_zero Go.wp_at_succ

theorem ok21 : cfgOk 2 1 0 := by unfold cfgOk; omega

set_option maxHeartbeats 2000000 in
theorem shown6_ (w : World) : Calls Try.prog 23 #[] w fun e w' => e = .returned (.bool true) ∧ Fr No w w' := by
  go_enter Try.func23, Try.ntmps23
  have B0 := blk_at w (cs := #[.int .i64 2, .int .i64 1, .int .i64 0, .int .u32 0]) (t := 25) rfl
  go_wp2_with fail
  refine (Next_in _ _ _ _ _ _ ok21 (by omega) (by omega)).mono ?_
  rintro e w1 ⟨rfl, hf1⟩
  have B1 := hf1.keepNo B0
  have C1 := B1.cells
  clear B0
  go_wp2_with fail
  refine (Value_in _ _ _ _ _ _ ok21 (by omega) (by omega)).mono ?_
  rintro e w2 ⟨rfl, hf2⟩
  have B2 := hf2.keepNo B1
  have C2 := B2.cells
  clear B1 C1
  go_wp2_with fail
  refine (Slot_in _ _ _ _ _ _ ok21 (by omega) (by omega)).mono ?_
  rintro e w3 ⟨rfl, hf3⟩
  have B3 := hf3.keepNo B2
  have C3 := B3.cells
  clear B2 C2
  go_wp2_with fail
  refine (Cells_yes _ _ _ _ _ ok21).mono ?_
  rintro e w4 ⟨rfl, hf4⟩
  go_wp2_with fail
  refine (Check_no _ _ _ _ _ (by unfold cfgOk; omega)).mono ?_
  rintro e w5 ⟨rfl, hf5⟩
  go_wp2_with fail
  go_ret
  exact ⟨rfl, by (repeat (first | exact Fr.refl _ _ | refine Fr.setCell ?_ (.inl (by first | (simp; done) | (simp; omega) | omega)) _ | refine Fr.alloc ?_ _ | refine Fr.drew ?_ | refine Fr.drewN ?_ _ | refine Fr.thenNo ?_ (by assumption)))⟩


def LInv (w wr : World) (gB gw cw N : Nat) (n s h t : Int) (ws l : List Int) (v15 : Value) : Prop :=
  Own wr (New w.heap.size) 23 1 v15 l.length (us .u32 l) ∧ Own wr (New w.heap.size) 26 1 (.slice (some ⟨gw, 0, none⟩) N cw) N (us .u64 ws) ∧ Fr No w wr ∧
  Blk wr gB #[.int .i64 n, .int .i64 s, .int .i64 h, .int .u32 t] 25 ∧ w.heap.size ≤ gB ∧ l.Nodup ∧ ∀ x ∈ l, 1 ≤ x ∧ x ≤ n

theorem LInv.step {w wr w' : World} {gB gw cw N : Nat} {n s h t : Int} {ws l : List Int} {v15 : Value} (H : LInv w wr gB gw cw N n s h t ws l v15) (hf : Fr No wr w') (j : Nat) (x : Int) (hj : j < ws.length) :
    LInv w (w'.setCell ⟨gw, j, none⟩ (.int .u64 x)) gB gw cw N n s h t (ws.set j x) l v15 := by
  obtain ⟨hL, hW, hfw, hB, hgB, hnd, hin⟩ := H
  have hL2 := hL.keepNo hf
  have hW2 := hW.keepNo hf
  have hB2 := hf.keepNo hB
  have hgw : w.heap.size ≤ gw := hW.2 gw rfl
  have hne : gw ≠ gB := fun e => hW.ne hB (by decide) (by rw [e]; rfl)
  refine ⟨hL2.apart hW2 (by decide) _, ?_, (hfw.thenNo hf).setCell (.inl hgw) _, hB2.far (Ne.symm hne) _, hgB, hnd, hin⟩
  have W := hW2.set j (.int .u64 x) (by rw [us_len]; exact hj)
  rw [us_set] at W
  exact W

theorem LInv.keep {w wr w' : World} {gB gw cw N : Nat} {n s h t : Int} {ws l : List Int} {v15 : Value} (H : LInv w wr gB gw cw N n s h t ws l v15) (hf : Fr No wr w') : LInv w w' gB gw cw N n s h t ws l v15 := by
  obtain ⟨hL, hW, hfw, hB, hgB, hnd, hin⟩ := H
  exact ⟨hL.keepNo hf, hW.keepNo hf, hfw.thenNo hf, hf.keepNo hB, hgB, hnd, hin⟩

theorem u64_in' (x : Int) (h : 0 ≤ x ∧ x < 18446744073709551616) : IntKind.u64.wrap x = x := by simp [IntKind.wrap, IntKind.bits, IntKind.signed]; omega

theorem beq_comm' (x y : Int) : (x == y) = decide (y = x) := by
  rw [Bool.eq_iff_iff]
  simp only [beq_iff_eq, decide_eq_true_eq]
  exact ⟨Eq.symm, Eq.symm⟩

theorem nodup_len_nat : ∀ (m : Nat) (l : List Int), l.Nodup → (∀ x ∈ l, 1 ≤ x ∧ x ≤ (m : Int)) → l.length ≤ m := by
  intro m
  induction m with
  | zero =>
    intro l _ hr
    cases l with
    | nil => simp
    | cons x l => have := hr x (by simp); omega
  | succ m ih =>
    intro l hd hr
    by_cases hm : ((m + 1 : Nat) : Int) ∈ l
    · have h1 := ih (l.erase ((m + 1 : Nat) : Int)) (hd.erase _) (fun x hx => by
        have h2 := (hd.mem_erase_iff).1 hx
        have := hr x h2.2
        have := h2.1
        omega)
      have := List.length_erase_of_mem hm
      omega
    · have := ih l hd (fun x hx => by
        have h3 := hr x hx
        have : x ≠ ((m + 1 : Nat) : Int) := fun e => hm (e ▸ hx)
        omega)
      omega

theorem nodup_len (n : Int) (l : List Int) (hn : 0 ≤ n) (hd : l.Nodup) (hr : ∀ x ∈ l, 1 ≤ x ∧ x ≤ n) : (l.length : Int) ≤ n := by
  have := nodup_len_nat n.toNat l hd (fun x hx => by have := hr x hx; omega)
  omega

set_option maxRecDepth 100000 in
set_option maxHeartbeats 8000000 in
theorem LayoutLists_ (w : World) (S : Nat → Prop) (a b t p : Int) (ha : I64 a) (hb : I64 b) (hp : I64 p) (ht0 : 0 ≤ t) (ht1 : t < 4294967296) (vo : Value) (od : List Int) (ho : Rd w S vo (us .i64 od)) (hoi : ∀ j, I64 (od.getD j 0)) :
    Calls Try.prog 4 #[.int .i64 a, .int .i64 b, vo, .int .u32 t, .int .i64 p] w fun e w' => e = .returned (.bool true) ∧ Fr No w w' := by
  obtain ⟨a0, a1⟩ := ha
  obtain ⟨b0, b1⟩ := hb
  obtain ⟨p0, p1⟩ := hp
  have HO := Lib.hid ho
  have HOI := Lib.hid hoi
  obtain ⟨Ao, co, rfl, hco, hcom⟩ := ho.slice
  clear ho hoi
  have hol : od.length ≤ 9223372036854775807 := by unfold maxLen at hcom; omega
  go_enter Try.func4, Try.ntmps4
  go_wp2_with fail
  refine (shown6_ _).mono ?_
  rintro e w1 ⟨rfl, hf1⟩
  go_wp2_with fail
  refine (config6_ _ _ _ _ _ a0 a1 b0 b1 (by omega) (by omega)).mono ?_
  rintro e w2 ⟨rfl, hf2⟩
  have ok := config_ok a b 0
  generalize 1 + pickV a 64 = n at *
  generalize pickV b 17 = s at *
  generalize pickV 0 65 = h at *
  have ok' := ok
  obtain ⟨h1, h2, h3, h4, h5, h6⟩ := ok'
  have hfw2 := hf1.then hf2
  obtain ⟨gB, hgB⟩ : ∃ gB, gB = w2.heap.size := ⟨_, rfl⟩
  have hB2 := blk_at w2 (cs := #[.int .i64 n, .int .i64 s, .int .i64 h, .int .u32 t]) (t := 25) hgB
  have hgB2 : w.heap.size ≤ gB := by have := hfw2.size; omega
  clear hf1 hf2
  go_wp2_with fail
  refine (Fresh_yes _ _ _ _ _ ok ht0 ht1).mono ?_
  rintro e w3 ⟨gw, cw, rfl, hW3, hf3⟩
  rw [← hgB]
  have hB3 := hf3.keepNo hB2
  have hW3 := hW3.wide (S' := New w.heap.size) (fun i hi _ => by have := hfw2.size; simp only [New, World.size_alloc] at *; omega)
  have hfw3 := (hfw2.alloc _).then hf3
  clear hfw2 hB2 hf3 hgB
  obtain ⟨N, hN⟩ : ∃ N, N = (2 + 2 * n + s + h).toNat := ⟨_, rfl⟩
  rw [← hN] at hW3 ⊢
  have hNi : ((N : Int) != 2 + 2 * n + s + h) = false := by simp; omega
  have HN : Hid ((N : Int) = 2 + 2 * n + s + h) := by show _ = _; omega
  clear hN
  have C3 := hB3.cells
  go_wp2_with fail
  refine (Cells_yes _ _ _ _ _ ok).mono ?_
  rintro e w4 ⟨rfl, hf4⟩
  have hB4 := hf4.keepNo hB3
  have hW4 := hW3.keepNo hf4
  have hfw4 := hfw3.then hf4
  clear C3 hB3 hW3 hfw3 hf4
  by_cases hlong : (100 : Int) < od.length
  · go_wp2_with fail
    go_ret
    exact ⟨rfl, hfw4⟩
  have hol2 : (od.length : Int) ≤ 100 := by omega
  go_wp2_with fail
  go_loopw [15, 16] (fun v15 i wr => ∃ k : Nat, k ≤ od.length ∧ i = .int .i64 k ∧ ∃ l, LInv w wr gB gw cw N n s h t (freshL n s h t) l v15) (fun _ i _ => 100 - (intOf i).toNat)
  case atStart => exact ⟨0, by omega, rfl, [], Own.nil _ _ _ _, hW4, hfw4, hB4, hgB2, by simp, by simp⟩
  case round =>
    clear hW4 hfw4 hB4
    obtain ⟨k, hk, rfl, l, hL, hW, hfw, hB, _, hnd, hin⟩ := hrel
    by_cases hlt : k < od.length
    · obtain ⟨A15, c15, rfl, hc15, hm15⟩ := hL.slice
      obtain ⟨go, oo, co', hvo, _, _, hgo, hco⟩ := HO.out.at (by omega)
      cases hvo
      have hck := hco k hlt
      have hck2 := (hfw.cell (p := ⟨go, oo + k, none⟩) hgo id).trans hck
      clear hck hco
      obtain ⟨y, hy⟩ : ∃ y, y = od.getD k 0 := ⟨_, rfl⟩
      have hyi := HOI.out k
      rw [← hy] at hck2 hyi
      obtain ⟨hy0, hy1⟩ := hyi
      clear hy
      have hi1 : (k : Int) < od.length := by omega
      have hi0 : (0 : Int) ≤ (k : Int) := by omega
      have C := hB.cells
      have kn := C 0
      simp at kn
      have hBl := hB.lt
      have hpk := pickV_bd y n (by omega)
      have e1 : IntKind.i64.wrap (1 + pickV y n) = 1 + pickV y n := IntWalk.i64_in _ (by omega)
      have e2 : IntKind.u32.wrap (1 + pickV y n) = 1 + pickV y n := IntWalk.u32_in _ (by omega)
      clear C
      go_wp2_with fail
      go_cut [17] (fun v17 wx => v17 = .int .u32 (1 + pickV y n) ∧ wx = wr.drew)
      case first =>
        go_region_held3 (fun w' => w'.cell? ⟨go, oo + k, none⟩ = some (.int .i64 y) ∧ w'.cell? ⟨gB, 0, none⟩ = some (.int .i64 n)) (first | (go_keep; done) | (go_split_ands; (repeat' apply And.intro) <;> first | assumption | (refine (Fr.cell (S := No) (by assumption) (by first | (simp; done) | (simp; omega) | omega) id).trans ?_; first | assumption | (simp; done) | (simp; assumption)) | (refine (Fr.frozen (S := No) (by assumption) (by first | (simp; done) | (simp; omega) | omega) id).trans ?_; first | assumption | (simp; done) | (simp; assumption)))) ((go_at_call 27; refine (pick6_ _ _ _ hy0 hy1 (by omega) (by omega)).mono ?_; rintro e w5 ⟨rfl, rfl⟩))
        go_wp2_with fail
        go_meet
        exact ⟨rfl, rfl⟩
      case rest =>
        obtain ⟨rfl, rfl⟩ := hcut
        obtain ⟨z, hz⟩ : ∃ z, z = 1 + pickV y n := ⟨_, rfl⟩
        rw [← hz]
        have hz1 : 1 ≤ z ∧ z ≤ n := by omega
        have HL := Lib.hid hL
        have hll := nodup_len n l (by omega) hnd hin
        clear e1 e2 hz hpk kn hck2 hy0 hy1 hL
        go_wp2_with fail
        obtain ⟨wo, hwo⟩ : ∃ wo, wo = wr.drew := ⟨_, rfl⟩
        rw [← hwo]
        go_loop [18, 19] (fun v18 i => ∃ j : Nat, j ≤ l.length ∧ i = .int .i64 j ∧ v18 = .bool (decide (z ∈ l.take j))) (fun _ i => l.length - (intOf i).toNat)
        case atStart => exact ⟨0, by omega, rfl, by simp⟩
        case round =>
          obtain ⟨j, hj, rfl, rfl⟩ := hrel
          by_cases hjl : j < l.length
          · obtain ⟨gl, ol, cl, hvl, _, _, hgl, hcl⟩ := HL.out.rd.at (by omega)
            cases hvl
            have hclj := hcl j hjl
            obtain ⟨y2, hy2⟩ : ∃ y2, y2 = l.getD j 0 := ⟨_, rfl⟩
            have hget : l[j] = y2 := by rw [hy2, List.getD_eq_getElem?_getD, List.getElem?_eq_getElem hjl]; rfl
            rw [← hy2] at hclj
            have htk : (z ∈ l.take (j + 1)) = (z ∈ l.take j ∨ z = y2) := by rw [List.take_succ_eq_append_getElem hjl, hget]; simp
            have HTK := Lib.hid htk
            have hj1 : (j : Int) < l.length := by omega
            have hj0 : (0 : Int) ≤ (j : Int) := by omega
            have hclj2 : wo.cell? ⟨gl, ol + j, none⟩ = some (.int .u32 y2) := by rw [hwo]; exact hclj
            clear hcl hy2 hget htk hclj hwo
            by_cases hm : z ∈ l.take j
            · have hd : decide (z ∈ l.take j) = true := by simpa using hm
              rw [hd]
              clear hd
              go_wp2_with fail
              go_round
              case rel => exact ⟨j + 1, by omega, by go_num, by simp only [HTK.out, hm, true_or, decide_true]⟩
              case measure => simp [intOf]; omega
            · have hd : decide (z ∈ l.take j) = false := by simpa using hm
              rw [hd]
              clear hd
              go_wp2_with fail
              go_round
              case rel => exact ⟨j + 1, by omega, by go_num, by simp only [HTK.out, hm, false_or]; exact congrArg Value.bool (beq_comm' y2 z)⟩
              case measure => simp [intOf]; omega
          · have hjl2 : j = l.length := by omega
            have hall : l.take j = l := by rw [List.take_of_length_le (by omega)]
            rw [hall]
            subst hwo
            by_cases hmem : z ∈ l
            · have hd : decide (z ∈ l) = true := by simpa using hmem
              rw [hd]
              clear hd
              go_wp2_with fail
              go_roundw
              case rel => exact ⟨k + 1, by omega, by go_num, l, HL.out.drew, hW.drew, hfw.drew, hB.drew, by assumption, hnd, hin⟩
              case measure => simp [intOf]; omega
            · have hd : decide (z ∈ l) = false := by simpa using hmem
              rw [hd]
              clear hd
              go_wp2_with (at_builtin; go_loud (refine wp_append_1 rfl _ _ 41 23 (.int .u32 0) 4 rfl Try.underlying41 info23 rfl (by decide) (by decide) HL.out.drew rfl #[.int .u32 z] _ rfl rfl rfl (by intro u hu; simp at hu; subst hu; rfl) (by omega) ?_; intro g' cap' w6 hO6 hf6 hr6))
              go_roundw
              case rel =>
                refine ⟨k + 1, by omega, by go_num, l ++ [z], ?_, ?_, hfw.drew.trans hf6 (fun i hi h => by have := HL.out.2 i h; simp only [New] at this; omega), hf6.keep hB.drew (HL.out.ne hB (by decide)), by assumption, ?_, ?_⟩
                · rw [us_append, List.length_append]
                  exact hO6.wide (fun i hi _ => by rcases hi with hi | hi; exact hi; have := hfw.size; simp only [New, World.size_drew] at *; omega)
                · exact hW.drew.keepRow HL.out.drew hf6 (by decide)
                · rw [List.nodup_append]
                  exact ⟨hnd, by simp, by simp; intro x hx hxz; exact hmem (hxz ▸ hx)⟩
                · intro x hx
                  simp only [List.mem_append, List.mem_singleton] at hx
                  rcases hx with hx | rfl
                  · exact hin x hx
                  · exact hz1
              case measure => simp [intOf]; omega
    · clear HO HOI hol hol2 hlong
      by_cases hl0 : l = []
      · subst hl0
        have hz : (((us IntKind.u32 ([] : List Int)).length : Int) == 0) = true := rfl
        obtain ⟨A15, c15, rfl, hc15, hm15⟩ := hL.slice
        go_wp2_with fail
        go_ret
        exact ⟨rfl, hfw⟩
      · have hlp : 0 < l.length := by cases l with
          | nil => exact absurd rfl hl0
          | cons x l => simp
        have hll := nodup_len n l (by omega) hnd hin
        obtain ⟨g15, c15, rfl, _, hg15, hc15, hcl, _⟩ := hL.form hlp
        have hl1 : ((l.length : Int) == 0) = false := by simp; omega
        go_wp2_with fail
        have HL := Lib.hid hL
        have HIN := Lib.hid hin
        have HCL := Lib.hid hcl
        have hfl : (freshL n s h t).length = N := by rw [freshL, tab_len]; have := HN.out; omega
        obtain ⟨W0, hW0⟩ : ∃ W0, W0 = freshL n s h t := ⟨_, rfl⟩
        rw [← hW0] at hW hfl
        have HW0 := Lib.hid hW0
        have HFL := Lib.hid hfl
        clear hW0 hL hin hcl hl1 hl0 hfl
        go_loopw [20] (fun i wr => ∃ k : Nat, k ≤ l.length ∧ i = .int .i64 k ∧ LInv w wr gB gw cw N n s h t (wrote l t W0 k) l (.slice (some ⟨g15, 0, none⟩) l.length c15)) (fun i _ => 64 - (intOf i).toNat)
        case atStart => exact ⟨0, by omega, rfl, HL.out, hW, hfw, hB, hgB2, hnd, HIN.out⟩
        case round =>
          clear hW hfw hB HL HCL
          obtain ⟨k, hk, rfl, hL, hW, hfw, hB, _, _, _⟩ := hrel
          obtain ⟨g15', c15', hv15, _, hg15, _, hcl, _⟩ := hL.form hlp
          cases hv15
          have hL0 := Lib.hid hL
          by_cases hlt : k < l.length
          · have hck := hcl k (by rw [us_len]; exact hlt)
            rw [us_get _ _ _ hlt] at hck
            obtain ⟨y, hy⟩ : ∃ y, y = l.getD k 0 := ⟨_, rfl⟩
            have hyin := HIN.out y (by rw [hy, List.getD_eq_getElem?_getD, List.getElem?_eq_getElem hlt]; exact List.getElem_mem hlt)
            obtain ⟨hy1, hy2⟩ := hyin
            obtain ⟨y9, hy9⟩ : ∃ y9, y9 = nextOf l k := ⟨_, rfl⟩
            have hy9in : 0 ≤ y9 ∧ y9 ≤ n := by
              rw [hy9, nextOf, List.getD_eq_getElem?_getD]
              by_cases hk1 : k + 1 < l.length
              · rw [List.getElem?_eq_getElem hk1]
                have := HIN.out _ (List.getElem_mem hk1)
                simp
                omega
              · rw [List.getElem?_eq_none (by omega)]
                simp
                omega
            rw [← hy] at hck
            have hi1 : (k : Int) < l.length := by omega
            have hi0 : (0 : Int) ≤ (k : Int) := by omega
            have C := hB.cells
            have kn := C 0
            have kn1 := C 1
            have kn2 := C 2
            have kn3 := C 3
            simp at kn kn1 kn2 kn3
            have hBl := hB.lt
            have hWlen : (wrote l t W0 k).length = N := by rw [wrote_len]; exact HFL.out
            have hW1 : (2 * y).toNat < (us .u64 (wrote l t W0 k)).length := by rw [us_len, hWlen]; have := HN.out; omega
            have hW2 : (2 * y + 1).toNat < ((us .u64 (wrote l t W0 k)).set (2 * y).toNat (.int .u64 (y9 + t * 4294967296))).length := by rw [List.length_set, us_len, hWlen]; have := HN.out; omega
            obtain ⟨gw', cw', hvw, _, hgw, _, hcw, hfree⟩ := hW.form (by have := HN.out; omega)
            cases hvw
            have c1 := hcw _ hW1
            rw [List.getElem?_eq_getElem hW1] at c1
            obtain ⟨u, hu⟩ : ∃ u, u = (us IntKind.u64 (wrote l t W0 k))[(2 * y).toNat] := ⟨_, rfl⟩
            rw [← hu] at c1
            have F1 := hfree (2 * y).toNat
            have hb1 : (0 : Int) ≤ 2 * y := by omega
            have hb2 : 2 * y < (N : Int) := by have := HN.out; omega
            have hne1 : gw ≠ g15 := hW.apart_rows hL (by decide)
            have hne2 : gw ≠ gB := fun e => hW.ne hB (by decide) (by rw [e]; rfl)
            have hne3 : g15 ≠ gw := Ne.symm hne1
            have hne4 : gB ≠ gw := Ne.symm hne2
            clear hu hcw hfree C
            go_upto_if 114 with fail
            go_cut [21] (fun v21 wx => v21 = .int .u32 y9 ∧ wx = wr)
            case first =>
              by_cases hk1 : k + 1 < l.length
              · have hck1 := hcl (k + 1) (by rw [us_len]; exact hk1)
                rw [us_get _ _ _ hk1, show l.getD (k + 1) 0 = y9 from hy9.symm] at hck1
                have hi2 : (k : Int) + 1 < l.length := by omega
                clear hcl hy9 hy
                go_wp2_with fail
                go_meet
                exact ⟨rfl, rfl⟩
              · have hz9 : y9 = 0 := by rw [hy9, nextOf, List.getD_eq_getElem?_getD, List.getElem?_eq_none (by omega)]; rfl
                have hi2 : ¬ (k : Int) + 1 < l.length := by omega
                clear hcl hy9 hy
                subst hz9
                go_wp2_with fail
                go_meet
                exact ⟨rfl, rfl⟩
            case rest =>
              obtain ⟨rfl, rfl⟩ := hcut
              have HY := Lib.hid hy
              have HY9 := Lib.hid hy9
              clear hcl hy hy9
              go_wp2_with fail
              go_cut [] (fun wx => LInv w wx gB gw cw N n s h t ((wrote l t W0 k).set (2 * y).toNat (y9 + t * 4294967296)) l (.slice (some ⟨g15, 0, none⟩) l.length c15))
              case first =>
                go_region_held3 (fun w' => w'.cell? ⟨g15, k, none⟩ = some (.int .u32 y) ∧ w'.cell? ⟨gB, 0, none⟩ = some (.int .i64 n) ∧ w'.cell? ⟨gB, 1, none⟩ = some (.int .i64 s) ∧ w'.cell? ⟨gB, 2, none⟩ = some (.int .i64 h) ∧ w'.cell? ⟨gB, 3, none⟩ = some (.int .u32 t)) (first | (go_keep; done) | (go_split_ands; (repeat' apply And.intro) <;> first | assumption | (refine (Fr.cell (S := No) (by assumption) (by first | (simp; done) | (simp; omega) | omega) id).trans ?_; first | assumption | (simp; done) | (simp; assumption)) | (refine (Fr.frozen (S := No) (by assumption) (by first | (simp; done) | (simp; omega) | omega) id).trans ?_; first | assumption | (simp; done) | (simp; assumption))))
                  (first | ((go_at_call 28; refine (Word_' _ _ _ (by omega) (by omega) ht0 ht1).mono ?_; rintro e w' ⟨rfl, rfl⟩)) | ((go_at_call 29; refine (Next_in _ _ _ _ _ _ ok hy1 hy2).mono ?_; rintro e w5 ⟨rfl, hf5⟩; have c5 : w5.cell? ⟨gw, (2 * y).toNat, none⟩ = some u := (hf5.cell (by simp; omega) id).trans c1; have F5 : w5.frozen? ⟨gw, (2 * y).toNat, none⟩ = false := (hf5.frozen (by simp; omega) id).trans F1)))
                all_goals
                  go_wp2_with fail
                  go_meet
                  exact LInv.step ⟨hL, hW, hfw, hB, hgB2, hnd, HIN.out⟩ (((Fr.refl No _).drew).then hf5) _ _ (by rw [hWlen]; omega)
              case rest =>
                have HW1 := Lib.hid hcut
                have hcut0 := hcut
                clear hL hW hfw hB hL0 hck kn kn1 kn2 kn3 c1 F1 hW1 hcut hBl hgw hg15
                obtain ⟨hL, hW, hfw, hB, _, _, _⟩ := hcut0
                obtain ⟨g15', c15', hv15, _, hg15, _, hcl, _⟩ := hL.form hlp
                cases hv15
                have hck := hcl k (by rw [us_len]; exact hlt)
                rw [us_get _ _ _ hlt, ← HY.out] at hck
                have C := hB.cells
                have kn := C 0
                have kn1 := C 1
                have kn2 := C 2
                have kn3 := C 3
                simp at kn kn1 kn2 kn3
                have hBl := hB.lt
                have hW3 : (2 * y + 1).toNat < (us .u64 ((wrote l t W0 k).set (2 * y).toNat (y9 + t * 4294967296))).length := by rw [us_len, List.length_set, hWlen]; have := HN.out; omega
                obtain ⟨gw', cw', hvw, _, hgw, _, hcw, hfree⟩ := hW.form (by have := HN.out; omega)
                cases hvw
                have c1 := hcw _ hW3
                rw [List.getElem?_eq_getElem hW3] at c1
                obtain ⟨u, hu⟩ : ∃ u, u = (us IntKind.u64 ((wrote l t W0 k).set (2 * y).toNat (y9 + t * 4294967296)))[(2 * y + 1).toNat] := ⟨_, rfl⟩
                rw [← hu] at c1
                have F1 := hfree (2 * y + 1).toNat
                have hb3 : (0 : Int) ≤ 2 * y + 1 := by omega
                have hb4 : 2 * y + 1 < (N : Int) := by have := HN.out; omega
                have e1 : IntKind.i64.wrap (1000 + (k : Int)) = 1000 + (k : Int) := IntWalk.i64_in _ (by omega)
                have e2 : IntKind.u64.wrap (1000 + (k : Int)) = 1000 + (k : Int) := u64_in' _ (by omega)
                clear hu hcw hfree C hcl
                go_wp2_with fail
                go_region_held3 (fun w' => w'.cell? ⟨g15, k, none⟩ = some (.int .u32 y) ∧ w'.cell? ⟨gB, 0, none⟩ = some (.int .i64 n) ∧ w'.cell? ⟨gB, 1, none⟩ = some (.int .i64 s) ∧ w'.cell? ⟨gB, 2, none⟩ = some (.int .i64 h) ∧ w'.cell? ⟨gB, 3, none⟩ = some (.int .u32 t)) (first | (go_keep; done) | (go_split_ands; (repeat' apply And.intro) <;> first | assumption | (refine (Fr.cell (S := No) (by assumption) (by first | (simp; done) | (simp; omega) | omega) id).trans ?_; first | assumption | (simp; done) | (simp; assumption)) | (refine (Fr.frozen (S := No) (by assumption) (by first | (simp; done) | (simp; omega) | omega) id).trans ?_; first | assumption | (simp; done) | (simp; assumption))))
                  ((go_at_call 30; refine (Value_in _ _ _ _ _ _ ok hy1 hy2).mono ?_; rintro e w5 ⟨rfl, hf5⟩; have c5 : w5.cell? ⟨gw, (2 * y + 1).toNat, none⟩ = some u := (hf5.cell (by simp; omega) id).trans c1; have F5 : w5.frozen? ⟨gw, (2 * y + 1).toNat, none⟩ = false := (hf5.frozen (by simp; omega) id).trans F1))
                all_goals
                  clear e1 e2
                  go_wp2_with fail
                  go_roundw
                  case rel =>
                    refine ⟨k + 1, by omega, by go_num, ?_⟩
                    have Q := LInv.step HW1.out (((Fr.refl No _).drew).then hf5) (2 * y + 1).toNat (1000 + (k : Int)) (by rw [List.length_set, hWlen]; have := HN.out; omega)
                    rw [wrote, ← HY.out, ← HY9.out]
                    exact Q
                  case measure => simp [intOf]; omega
          · have hkl : k = l.length := by omega
            subst hkl
            clear hL0
            have hN2 : 4 ≤ N := by have := HN.out; omega
            have H1 : LInv w wr gB gw cw N n s h t (wrote l t W0 l.length) l (.slice (some ⟨g15, 0, none⟩) l.length c15) := ⟨hL, hW, hfw, hB, hgB2, hnd, HIN.out⟩
            have hl0 := hcl 0 (by rw [us_len]; exact hlp)
            rw [us_get _ _ _ hlp] at hl0
            obtain ⟨y0, hy0⟩ : ∃ y0, y0 = l.getD 0 0 := ⟨_, rfl⟩
            rw [← hy0] at hl0
            have hy0in := HIN.out y0 (by rw [hy0, List.getD_eq_getElem?_getD, List.getElem?_eq_getElem hlp]; exact List.getElem_mem hlp)
            have HY0 := Lib.hid hy0
            clear hy0
            have hWlen : (wrote l t W0 l.length).length = N := by rw [wrote_len]; exact HFL.out
            obtain ⟨W1, hW1⟩ : ∃ W1, W1 = wrote l t W0 l.length := ⟨_, rfl⟩
            rw [← hW1] at hW hWlen H1
            have HW1 := Lib.hid hW1
            clear hW1
            obtain ⟨gw', cw', hvw, _, hgw, _, hcw, hfree⟩ := hW.form (by omega)
            cases hvw
            have hwl : 0 < (us .u64 W1).length := by rw [us_len, hWlen]; omega
            have c1 := hcw 0 hwl
            rw [List.getElem?_eq_getElem hwl] at c1
            obtain ⟨u, hu⟩ : ∃ u, u = (us IntKind.u64 W1)[0] := ⟨_, rfl⟩
            rw [← hu] at c1
            have F1 := hfree 0
            have hl1 : (0 : Int) < l.length := by omega
            have hN0 : (0 : Int) < N := by omega
            have hN00 : 0 < N := by omega
            clear hu hcw hfree hcl
            go_wp2_with fail
            refine (Word_' _ _ _ (by omega) (by omega) (by omega) (by omega)).mono ?_
            rintro e w5 ⟨rfl, rfl⟩
            go_wp2_with fail
            have H2 := LInv.step H1 (Fr.refl No _) 0 (y0 + (t + 1) % 4294967296 * 4294967296) (by omega)
            have hlen64 : (l.length : Int) ≤ 64 := by omega
            refine (pick6_ _ _ _ p0 p1 (by omega) (by omega)).mono ?_
            rintro e w5 ⟨rfl, rfl⟩
            have hpk := pickV_bd p l.length (by omega)
            obtain ⟨K, hK⟩ : ∃ K : Nat, pickV p l.length = K := ⟨(pickV p l.length).toNat, by omega⟩
            rw [hK] at hpk ⊢
            have hK1 : K < l.length := by omega
            clear hK
            obtain ⟨W2, hW2⟩ : ∃ W2, W2 = W1.set 0 (y0 + (t + 1) % 4294967296 * 4294967296) := ⟨_, rfl⟩
            rw [← hW2] at H2
            have HW2 := Lib.hid hW2
            clear hW2 hL hW hfw hB H1 hl0 c1 F1 hgw hg15 hwl
            generalize wr.setCell ⟨gw, 0, none⟩ (Value.int IntKind.u64 (y0 + (t + 1) % 4294967296 * 4294967296)) = wb at *
            have H2' := H2
            obtain ⟨hL, hW, hfw, hB, _, _, _⟩ := H2'
            obtain ⟨g15', c15', hv15, _, hg15, _, hcl, _⟩ := hL.form hlp
            cases hv15
            have hck := hcl K (by rw [us_len]; exact hK1)
            rw [us_get _ _ _ hK1] at hck
            obtain ⟨y, hy⟩ : ∃ y, y = l.getD K 0 := ⟨_, rfl⟩
            rw [← hy] at hck
            have hyin := HIN.out y (by rw [hy, List.getD_eq_getElem?_getD, List.getElem?_eq_getElem hK1]; exact List.getElem_mem hK1)
            have HY := Lib.hid hy
            have C := hB.cells
            have kn := C 0
            have kn1 := C 1
            have kn2 := C 2
            have kn3 := C 3
            simp at kn kn1 kn2 kn3
            have hBl := hB.lt
            have hi1 : (K : Int) < l.length := by omega
            have hi0 : (0 : Int) ≤ (K : Int) := by omega
            have e1 : IntKind.u64.wrap (y + 7 * 4294967296) = y + 7 * 4294967296 := u64_in' _ (by omega)
            clear hy hcl C
            have hWl2 : W2.length = N := by rw [HW2.out, List.length_set]; exact hWlen
            have HW20 : W2 = (wrote l t (freshL n s h t) l.length).set 0 (l.getD 0 0 + (t + 1) % 4294967296 * 4294967296) := by rw [HW2.out, HW1.out, HW0.out, HY0.out]
            have HW20 := Lib.hid HW20
            have hlen1000 : l.length ≤ 1000 := by omega
            have hWds : Words W2 := by rw [HW20.out]; exact two_words ok ht0 ht1 hnd HIN.out hlp hlen1000
            have hCh1 : chainL n W2 (y + 7 * 4294967296) = if true then some (l.drop K) else none := by rw [HW20.out]; exact two_chain ok ht0 ht1 hnd HIN.out hlp hlen1000 hll K hK1 _ (by rw [← HY.out]; omega)
            go_wp2_with fail
            go_cut [23, 24] (fun v23 v24 wx => v24 = .bool true ∧ Own wx (New w.heap.size) 23 1 v23 (l.drop K).length (us .u32 (l.drop K)) ∧ LInv w wx gB gw cw N n s h t W2 l (.slice (some ⟨g15, 0, none⟩) l.length c15))
            case first =>
              go_region_held3 (fun w' => w'.cell? ⟨g15, K, none⟩ = some (.int .u32 y) ∧ w'.cell? ⟨gB, 0, none⟩ = some (.int .i64 n) ∧ w'.cell? ⟨gB, 1, none⟩ = some (.int .i64 s) ∧ w'.cell? ⟨gB, 2, none⟩ = some (.int .i64 h) ∧ w'.cell? ⟨gB, 3, none⟩ = some (.int .u32 t)) (first | (go_keep; done) | (go_split_ands; (repeat' apply And.intro) <;> first | assumption | (refine (Fr.cell (S := No) (by assumption) (by first | (simp; done) | (simp; omega) | omega) id).trans ?_; first | assumption | (simp; done) | (simp; assumption)) | (refine (Fr.frozen (S := No) (by assumption) (by first | (simp; done) | (simp; omega) | omega) id).trans ?_; first | assumption | (simp; done) | (simp; assumption))))
                (first | ((go_at_call 28; refine (Word_' _ _ _ (by omega) (by omega) (by omega) (by omega)).mono ?_; rintro e w' ⟨rfl, rfl⟩)) | ((go_at_call 31; refine (Chain' _ (New w.heap.size) n s h t _ ok _ W2 hW.drew.rd hWds (by rw [hWl2]; exact HN.out) (by omega) (by omega) (l.drop K) true hCh1 (by simp)).mono ?_; rintro e w5 ⟨⟨v5, rfl, hO5⟩, hf5⟩)))
              all_goals
                go_wp2_with fail
                go_meet
                exact ⟨rfl, hO5.wide (fun i hi _ => by have := hfw.size; simp only [New, World.size_drew] at *; omega), H2.keep (((Fr.refl No _).drew).then hf5)⟩
            case rest =>
              obtain ⟨rfl, hO5, H3⟩ := hcut
              have hWl3 : (W2.length : Int) = 2 + 2 * n + s + h := by rw [hWl2]; exact HN.out
              have HK := Lib.hid hck
              clear hck kn kn1 kn2 kn3 hBl e1 hL hW hfw hB hg15 H2
              obtain ⟨hL, hW, hfw, hB, _, _, _⟩ := H3
              have C := hB.cells
              have hSt : chainL n W2 (W2.getD 0 0) = if true then some l else none := by rw [HW20.out]; exact two_stack ok ht0 ht1 hnd HIN.out hlp hlen1000 hll
              go_wp2_with fail
              refine (Stack_ _ (New w.heap.size) n s h t ok _ W2 hW.rd hWds hWl3 l true hSt (by simp)).mono ?_
              rintro e w6 ⟨⟨v6, rfl, hO6⟩, hf6⟩
              have hO6' := hO6.wide (S' := New w.heap.size) (fun i hi _ => by have := hfw.size; simp only [New] at *; omega)
              have hO5' := hO5.keepNo hf6
              have H4 := LInv.keep (⟨hL, hW, hfw, hB, hgB2, hnd, HIN.out⟩ : LInv w wc gB gw cw N n s h t W2 l (.slice (some ⟨g15, 0, none⟩) l.length c15)) hf6
              clear hO5 hO6 hL hW hfw hB C
              obtain ⟨hL, hW, hfw, hB, _, _, _⟩ := H4
              obtain ⟨A6, c6, rfl, _, _⟩ := hO6'.slice
              have hnc : ¬ c15 = K := by omega
              have hlb1 : (l.length : Int) ≤ c15 := by omega
              go_wp2_with fail
              have hRd := hL.rd.drop K hK1
              rw [us_drop, Nat.zero_add] at hRd
              refine (Same32 _ _ _ _ _ _ hO5'.rd hRd).mono ?_
              rintro e w7 ⟨rfl, hf7⟩
              have hO6s := hO6'.keepNo hf7
              have H5 := LInv.keep (⟨hL, hW, hfw, hB, hgB2, hnd, HIN.out⟩ : LInv w w6 gB gw cw N n s h t W2 l (.slice (some ⟨g15, 0, none⟩) l.length c15)) hf7
              clear hRd hO5' hO6' hL hW hfw hB hf6
              obtain ⟨hL, hW, hfw, hB, _, _, _⟩ := H5
              have hsv : stackL W2 l = tab l.length (fun j => 1000 + (l.length : Int) - 1 - j) := by rw [HW20.out]; exact two_values ok ht0 ht1 hnd HIN.out hlp hlen1000
              rw [hsv] at hO6s
              clear hsv
              go_wp2_with fail
              go_loop [27] (fun i => ∃ k : Nat, k ≤ l.length ∧ i = .int .i64 k) (fun i => 64 - (intOf i).toNat)
              case atStart => exact ⟨0, by omega, rfl⟩
              case round =>
                obtain ⟨k, hk, rfl⟩ := hrel
                by_cases hlt : k < l.length
                · obtain ⟨g6, c6', hv6, _, hg6, _, hc6, _⟩ := hO6s.form hlp
                  cases hv6
                  have hc6k := hc6 k (by rw [us_len, tab_len]; exact hlt)
                  rw [us_get _ _ _ (by rw [tab_len]; exact hlt), tab_get _ _ _ hlt] at hc6k
                  have hk1 : (k : Int) < l.length := by omega
                  have hk0 : (0 : Int) ≤ (k : Int) := by omega
                  clear hc6
                  go_wp2_with fail
                  go_round
                  case rel => exact ⟨k + 1, by omega, by go_num⟩
                  case measure => simp [intOf]; omega
                · have hkl : k = l.length := by omega
                  subst hkl
                  clear hO6s
                  obtain ⟨g15', c15', hv15, _, hg15, _, hcl, _⟩ := hL.form hlp
                  cases hv15
                  have hck := hcl K (by rw [us_len]; exact hK1)
                  rw [us_get _ _ _ hK1, ← HY.out] at hck
                  have hcz := hcl (l.length - 1) (by rw [us_len]; omega)
                  rw [us_get _ _ _ (by omega)] at hcz
                  obtain ⟨z, hz⟩ : ∃ z, z = l.getD (l.length - 1) 0 := ⟨_, rfl⟩
                  rw [← hz] at hcz
                  have hzin := HIN.out z (by rw [hz, List.getD_eq_getElem?_getD, List.getElem?_eq_getElem (by omega)]; exact List.getElem_mem _)
                  have HZ := Lib.hid hz
                  clear hz
                  have C := hB.cells
                  have kn := C 0
                  have kn1 := C 1
                  have kn2 := C 2
                  have kn3 := C 3
                  simp at kn kn1 kn2 kn3
                  have hBl := hB.lt
                  have hWz : (2 * z).toNat < (us .u64 W2).length := by rw [us_len, hWl2]; have := HN.out; omega
                  obtain ⟨gw', cw', hvw, _, hgw, _, hcw, hfree⟩ := hW.form (by omega)
                  cases hvw
                  have c1 := hcw _ hWz
                  rw [List.getElem?_eq_getElem hWz] at c1
                  obtain ⟨u, hu⟩ : ∃ u, u = (us IntKind.u64 W2)[(2 * z).toNat] := ⟨_, rfl⟩
                  rw [← hu] at c1
                  have F1 := hfree (2 * z).toNat
                  have hb3 : (0 : Int) ≤ 2 * z := by omega
                  have hb4 : 2 * z < (N : Int) := by have := HN.out; omega
                  have e1 : IntKind.i64.wrap ((l.length : Int) - 1) = (l.length : Int) - 1 := IntWalk.i64_in _ (by omega)
                  have e2 : ((l.length : Int) - 1).toNat = l.length - 1 := by omega
                  have e3 : (1 : Int) ≤ (l.length : Int) := by omega
                  have e4 : (l.length : Int) - 1 < (l.length : Int) := by omega
                  have e5 : (0 : Int) ≤ (l.length : Int) - 1 := by omega
                  have e6 : IntKind.u64.wrap y = y := u64_in' _ (by omega)
                  have hne1 : gw ≠ g15 := hW.apart_rows hL (by decide)
                  have hne2 : gw ≠ gB := fun e => hW.ne hB (by decide) (by rw [e]; rfl)
                  have hne3 : g15 ≠ gw := Ne.symm hne1
                  have hne4 : gB ≠ gw := Ne.symm hne2
                  obtain ⟨hz1, hz2⟩ := hzin
                  clear hu hcw hfree C hcl
                  go_wp2_with fail
                  go_cut [] (fun wx => LInv w wx gB gw cw N n s h t (W2.set (2 * z).toNat y) l (.slice (some ⟨g15, 0, none⟩) l.length c15))
                  case first =>
                    go_region_held3 (fun w' => w'.cell? ⟨g15, K, none⟩ = some (.int .u32 y) ∧ w'.cell? ⟨g15, l.length - 1, none⟩ = some (.int .u32 z) ∧ w'.cell? ⟨gB, 0, none⟩ = some (.int .i64 n) ∧ w'.cell? ⟨gB, 1, none⟩ = some (.int .i64 s) ∧ w'.cell? ⟨gB, 2, none⟩ = some (.int .i64 h) ∧ w'.cell? ⟨gB, 3, none⟩ = some (.int .u32 t)) (first | (go_keep; done) | (go_split_ands; (repeat' apply And.intro) <;> first | assumption | (refine (Fr.cell (S := No) (by assumption) (by first | (simp; done) | (simp; omega) | omega) id).trans ?_; first | assumption | (simp; done) | (simp; assumption)) | (refine (Fr.frozen (S := No) (by assumption) (by first | (simp; done) | (simp; omega) | omega) id).trans ?_; first | assumption | (simp; done) | (simp; assumption))))
                      ((go_at_call 29; refine (Next_in _ _ _ _ _ _ ok hz1 hz2).mono ?_; rintro e w5 ⟨rfl, hf5⟩; have c5 : w5.cell? ⟨gw, (2 * z).toNat, none⟩ = some u := (hf5.cell (by simp; omega) id).trans c1; have F5 : w5.frozen? ⟨gw, (2 * z).toNat, none⟩ = false := (hf5.frozen (by simp; omega) id).trans F1))
                    all_goals
                      go_wp2_with fail
                      go_meet
                      have Q := LInv.step (⟨hL, hW, hfw, hB, hgB2, hnd, HIN.out⟩ : LInv w w7 gB gw cw N n s h t W2 l (.slice (some ⟨g15, 0, none⟩) l.length c15)) (((Fr.refl No _).drew).then hf5) (2 * z).toNat y (by rw [hWl2]; have := HN.out; omega)
                      exact Q
                  case rest =>
                    clear hL hW hfw hB hck hcz kn kn1 kn2 kn3 c1 F1 e1 e2 e3 e4 e5 e6 hBl hgw hg15 hWz
                    obtain ⟨hL, hW, hfw, hB, _, _, _⟩ := hcut
                    obtain ⟨W3, hW3'⟩ : ∃ W3, W3 = W2.set (2 * z).toNat y := ⟨_, rfl⟩
                    rw [← hW3'] at hW
                    have HW3 := Lib.hid hW3'
                    clear hW3'
                    have hWl4 : (W3.length : Int) = 2 + 2 * n + s + h := by rw [HW3.out, List.length_set]; exact hWl3
                    have h3 := three_chain ok ht0 ht1 hnd HIN.out hlp hlen1000 K hK1 W3 (by rw [HW3.out, ← HW20.out, ← HZ.out, ← HY.out])
                    obtain ⟨hWds3, hCh3⟩ := h3
                    obtain ⟨gw', cw', hvw, _, hgw, _, hcw, hfree⟩ := hW.form (by omega)
                    cases hvw
                    have c0 := hcw 0 (by rw [us_len]; omega)
                    rw [us_get _ _ _ (by omega)] at c0
                    obtain ⟨q, hq⟩ : ∃ q, q = W3.getD 0 0 := ⟨_, rfl⟩
                    have hq0 : 0 ≤ q := by rw [hq]; exact (hWds3 _).1
                    have hq1 : q < 18446744073709551616 := by rw [hq]; exact (hWds3 _).2
                    rw [← hq] at c0
                    have HQ := Lib.hid hq
                    have C := hB.cells
                    have kn := C 0
                    have kn1 := C 1
                    have kn2 := C 2
                    have kn3 := C 3
                    simp at kn kn1 kn2 kn3
                    have hBl := hB.lt
                    clear hcw hfree C hq
                    go_wp2_with fail
                    go_cut [28, 29] (fun v28 v29 wx => v29 = .bool false ∧ Own wx (New w.heap.size) 23 1 v28 0 (us .u32 []) ∧ LInv w wx gB gw cw N n s h t W3 l (.slice (some ⟨g15, 0, none⟩) l.length c15))
                    case first =>
                      go_region_held3 (fun w' => w'.cell? ⟨gw, 0, none⟩ = some (.int .u64 q) ∧ w'.cell? ⟨gB, 0, none⟩ = some (.int .i64 n) ∧ w'.cell? ⟨gB, 1, none⟩ = some (.int .i64 s) ∧ w'.cell? ⟨gB, 2, none⟩ = some (.int .i64 h) ∧ w'.cell? ⟨gB, 3, none⟩ = some (.int .u32 t)) (first | (go_keep; done) | (go_split_ands; (repeat' apply And.intro) <;> first | assumption | (refine (Fr.cell (S := No) (by assumption) (by first | (simp; done) | (simp; omega) | omega) id).trans ?_; first | assumption | (simp; done) | (simp; assumption)) | (refine (Fr.frozen (S := No) (by assumption) (by first | (simp; done) | (simp; omega) | omega) id).trans ?_; first | assumption | (simp; done) | (simp; assumption))))
                        ((go_at_call 31; refine (Chain' _ (New w.heap.size) n s h t q ok _ W3 hW.drew.rd hWds3 hWl4 hq0 hq1 [] false (by rw [HQ.out]; exact hCh3) (by simp)).mono ?_; rintro e w5 ⟨⟨v5, rfl, hO5⟩, hf5⟩))
                      all_goals
                        go_wp2_with fail
                        go_meet
                        exact ⟨rfl, hO5.wide (fun i hi _ => by have := hfw.size; simp only [New, World.size_drew] at *; omega), LInv.keep (⟨hL, hW, hfw, hB, hgB2, hnd, HIN.out⟩ : LInv w wc gB gw cw N n s h t W3 l (.slice (some ⟨g15, 0, none⟩) l.length c15)) (((Fr.refl No _).drew).then hf5)⟩
                    case rest =>
                      clear hL hW hfw hB c0 kn kn1 kn2 kn3 hBl hgw
                      obtain ⟨rfl, hO5, hL, hW, hfw, hB, _, _, _⟩ := hcut
                      have C := hB.cells
                      go_wp2_with fail
                      refine (Stack_ _ (New w.heap.size) n s h t ok _ W3 hW.rd hWds3 hWl4 [] false hCh3 (by simp)).mono ?_
                      rintro e w8 ⟨⟨v8, rfl, hO8⟩, hf8⟩
                      have hO5' := hO5.keepNo hf8
                      have hfw8 := hfw.thenNo hf8
                      change Own _ _ _ _ _ 0 _ at hO8
                      obtain ⟨A5, c5, rfl, _, _⟩ := hO5'.slice
                      obtain ⟨A8, c8, rfl, _, _⟩ := hO8.slice
                      go_wp2_with fail
                      go_ret
                      exact ⟨rfl, hfw8⟩

end Go.Proofs.Ytfglpigoljclbaa.H
