/- Law 7's whole: both lists, and all that are held, are all nodes, each once. -/
import Derived.Test.YtfglpigoljclbaaHBs7
import Derived.Test.YtfglpigoljclbaaHApp
import Derived.Test.YtfglpigoljclbaaHSame
set_option linter.unusedVariables false
set_option linter.unusedSimpArgs false
namespace Go.Proofs.Ytfglpigoljclbaa.H
open Go.RowKit
attribute [local go_sem ↓] Go.wp_at_zero Go.wp_at_succ
variable {w w' a b wr : World} {S T : Nat → Prop}

theorem info3 : (Try.prog.info? 3).map (fun i => (i.zero, i.size, i.bytes)) = some (some (.int .i64 0), 1, 8) := by kernel_rfl

/-- Which nodes were seen, among the first i. -/
def seenL (n : Int) (l : List Int) (i : Nat) : List Int := tab (n.toNat + 1) fun j => if (j : Int) ∈ l.take i then 1 else 0

theorem seen_0 (n : Int) (l : List Int) : seenL n l 0 = tab (n.toNat + 1) (fun _ => 0) := tab_congr fun j _ => by simp
theorem seen_get (n : Int) (l : List Int) (i : Nat) (hd : l.Nodup) (hi : i < l.length) (hin : ∀ x ∈ l, 1 ≤ x ∧ x ≤ n) : (seenL n l i).getD (l.getD i 0).toNat 0 = 0 := by
  have hm : l.getD i 0 ∈ l := by rw [List.getD_eq_getElem?_getD, List.getElem?_eq_getElem hi]; exact List.getElem_mem hi
  have h1 := hin _ hm
  rw [seenL, tab_get _ _ _ (by omega), if_neg]
  intro h
  rw [show ((l.getD i 0).toNat : Int) = l.getD i 0 by omega] at h
  obtain ⟨j, hj, he⟩ := List.getElem_of_mem h
  rw [List.length_take] at hj
  rw [List.getElem_take] at he
  have e2 : l[i] = l.getD i 0 := by rw [List.getD_eq_getElem?_getD, List.getElem?_eq_getElem hi]; rfl
  rw [← e2] at he
  exact List.pairwise_iff_getElem.1 hd j i (by omega) hi (by omega) he
theorem seen_set (n : Int) (l : List Int) (i : Nat) (hi : i < l.length) (hin : ∀ x ∈ l, 1 ≤ x ∧ x ≤ n) : (seenL n l i).set (l.getD i 0).toNat 1 = seenL n l (i + 1) := by
  have hm : l.getD i 0 ∈ l := by rw [List.getD_eq_getElem?_getD, List.getElem?_eq_getElem hi]; exact List.getElem_mem hi
  have h1 := hin _ hm
  have e2 : l[i] = l.getD i 0 := by rw [List.getD_eq_getElem?_getD, List.getElem?_eq_getElem hi]; rfl
  rw [seenL, seenL, tab_set]
  refine tab_congr fun j _ => ?_
  rw [List.take_succ_eq_append_getElem hi, e2]
  by_cases hj : j = (l.getD i 0).toNat
  · rw [if_pos hj, if_pos]
    simp only [List.mem_append, List.mem_singleton]
    exact .inr (by omega)
  · rw [if_neg hj]
    by_cases h3 : (j : Int) ∈ l.take i
    · rw [if_pos h3, if_pos (by simp only [List.mem_append]; exact .inl h3)]
    · rw [if_neg h3, if_neg]
      simp only [List.mem_append, List.mem_singleton]
      rintro (h | h)
      · exact h3 h
      · omega

/-- Those that are held, of the first i. -/
def heldL (hs : List Int) (i : Nat) : List Int := (hs.take i).filter (fun x => x != 0)
theorem held_step (hs : List Int) (i : Nat) (hi : i < hs.length) : heldL hs (i + 1) = if hs.getD i 0 = 0 then heldL hs i else heldL hs i ++ [hs.getD i 0] := by
  have e2 : hs[i] = hs.getD i 0 := by rw [List.getD_eq_getElem?_getD, List.getElem?_eq_getElem hi]; rfl
  rw [heldL, List.take_succ_eq_append_getElem hi, e2, List.filter_append]
  by_cases h : hs.getD i 0 = 0
  · rw [if_pos h, h]; simp [heldL]
  · rw [if_neg h, List.filter_cons, if_pos (by simpa using h)]; rfl

/-- The lists, the slice of all, ahead of the end. -/
def WhInv (w wr : World) (n t : Int) (v11 : Value) (all : List Int) : Prop :=
  Own wr (New w.heap.size) 23 1 v11 all.length (us .u32 all) ∧ Fr No w wr ∧ Blk wr w.heap.size #[.int .i64 n, .int .i64 0, .int .i64 0, .int .u32 t] 25

theorem WhInv.keep {n t : Int} {v11 : Value} {all : List Int} (H : WhInv w wr n t v11 all) (hf : Fr No wr w') : WhInv w w' n t v11 all := ⟨H.1.keepNo hf, H.2.1.then hf, hf.keepNo H.2.2⟩

/-- Behind an append. -/
theorem WhInv.more {n t : Int} {v11 v' : Value} {all l : List Int} {w6 : World} (H : WhInv w wr n t v11 all) (hO : Own w6 (Gr (New w.heap.size) wr) 23 1 v' (all.length + l.length) (us .u32 all ++ us .u32 l)) (hf : Fr (Row v11) wr w6) : WhInv w w6 n t v' (all ++ l) := by
  obtain ⟨h1, h2, h3⟩ := H
  refine ⟨?_, h2.trans hf (fun i hi h => by have := h1.2 i h; simp only [New] at this; omega), hf.keep h3 (h1.ne h3 (by decide))⟩
  rw [List.length_append, us_append]
  exact hO.wide (fun i hi _ => by rcases hi with hi | hi; exact hi; have := h2.size; simp only [New]; omega)

theorem seen_store {w2 : World} {n t : Int} {v11 : Value} {all : List Int} {gs M i j : Nat} (hI : WhInv w wr n t v11 all) (hS : Own wr (New gs) 3 1 (.slice (some ⟨gs, 0, none⟩) M M) M (us .i64 (seenL n all i))) (hf : Fr No wr w2) (hgs : w.heap.size < gs)
    (hj : j < M) (hsl : (seenL n all i).length = M) (hst : (seenL n all i).set j 1 = seenL n all (i + 1)) :
    WhInv w (w2.setCell ⟨gs, j, none⟩ (.int .i64 1)) n t v11 all ∧ Own (w2.setCell ⟨gs, j, none⟩ (.int .i64 1)) (New gs) 3 1 (.slice (some ⟨gs, 0, none⟩) M M) M (us .i64 (seenL n all (i + 1))) := by
  have hI' := hI.keep hf
  have hS' := hS.keepNo hf
  refine ⟨⟨hI'.1.apart hS' (by decide) _, hI'.2.1.setCell (.inl (Nat.le_of_lt hgs)) _, hI'.2.2.far (p := ⟨gs, j, none⟩) (Nat.ne_of_lt hgs) _⟩, ?_⟩
  have h := hS'.set j (.int .i64 1) (by rw [us_len, hsl]; exact hj)
  rw [us_set, hst] at h
  exact h

set_option maxRecDepth 100000 in
set_option maxHeartbeats 4000000 in
theorem whole7_ (w : World) (n t : Int) (ws hs la lb : List Int) (N : Nat) (hp : Pl n ws) (hN : ws.length = N) {gw cw gh ch : Nat} (hO : Own w S 26 1 (.slice (some ⟨gw, 0, none⟩) N cw) N (us .u64 ws))
    (hH : Own w T 23 1 (.slice (some ⟨gh, 0, none⟩) 4 ch) 4 (us .u32 hs)) (hhs : hs.length = 4) (hhi : ∀ j, 0 ≤ hs.getD j 0 ∧ hs.getD j 0 < 4294967296) (ha : chainL n ws (ws.getD 0 0) = some la) (hb : chainL n ws (ws.getD 1 0) = some lb)
    (all : List Int) (hall : all = la ++ lb ++ heldL hs 4) (hnd : all.Nodup) (hin : ∀ x ∈ all, 1 ≤ x ∧ x ≤ n) (hlen : (all.length : Int) = n) :
    Calls Try.prog 49 #[cfg n 0 0 t, .slice (some ⟨gw, 0, none⟩) N cw, .slice (some ⟨gh, 0, none⟩) 4 ch] w fun e w' => e = .returned (.bool true) ∧ Fr No w w' := by
  have hw0 := hp.words 0
  have hw1 := hp.words 1
  have hn1 := hp.n1
  have hn2 := hp.n2
  have hN4 : 4 ≤ N := by have := hp.len; omega
  have hN5 : N ≤ 130 := by have := hp.len; omega
  have k0 := own_word hO (by omega : 0 < N) hN
  have k1 := own_word hO (by omega : 1 < N) hN
  obtain ⟨x, hx⟩ : ∃ x, x = ws.getD 0 0 := ⟨_, rfl⟩
  obtain ⟨y, hy⟩ : ∃ y, y = ws.getD 1 0 := ⟨_, rfl⟩
  rw [← hx] at hw0 k0 ha
  rw [← hy] at hw1 k1 hb
  obtain ⟨x0, x1⟩ := hw0
  obtain ⟨y0, y1⟩ := hw1
  have HN := Lib.hid hN
  have HO := Lib.hid hO
  have HA := Lib.hid ha
  have HB := Lib.hid hb
  have HALL := Lib.hid hall
  have HHS := Lib.hid hhs
  have HHI := Lib.hid hhi
  have HIN := Lib.hid hin
  have HLEN := Lib.hid hlen
  have hi0 : (0 : Int) < N := by omega
  have hi1 : (1 : Int) < N := by omega
  have hi0n : 0 < N := by omega
  have hi1n : 1 < N := by omega
  have hll : la.length + lb.length + (heldL hs 4).length ≤ 64 := by rw [hall] at hlen; simp only [List.length_append] at hlen; omega
  have hwl := hO.lt gw rfl
  have hhl := hH.lt gh rfl
  have HH := Lib.hid hH
  obtain ⟨wb, hwb⟩ : ∃ wb, wb = w.alloc (.cells #[.int .i64 n, .int .i64 0, .int .i64 0, .int .u32 t] 25) := ⟨_, rfl⟩
  have hfb : Fr No w wb := by rw [hwb]; exact (Fr.refl No w).alloc _
  have hBb : Blk wb w.heap.size #[.int .i64 n, .int .i64 0, .int .i64 0, .int .u32 t] 25 := by rw [hwb]; exact blk_new _ _ _
  clear hO ha hb hall hhs hhi hin hlen hH hN hx hy
  go_enter Try.func49, Try.ntmps49
  go_wp2_with fail
  rw [← hwb]
  have k0b := (hfb.cell (p := ⟨gw, 0, none⟩) hwl id).trans k0
  have k1b := (hfb.cell (p := ⟨gw, 1, none⟩) hwl id).trans k1
  have C := hBb.cells
  have q0 := C 0
  have q1 := C 1
  have q2 := C 2
  have q3 := C 3
  simp at q0 q1 q2 q3
  have lB := hBb.lt
  have lw2 : gw < wb.heap.size := by have := hfb.size; omega
  clear hwb k0 k1 C
  go_cut [7, 8] (fun v7 v8 wx => ∃ A cl, v7 = .slice A la.length cl ∧ v8 = .bool true ∧ Own wx (New wb.heap.size) 23 1 (.slice A la.length cl) la.length (us .u32 la) ∧ Fr No wb wx)
  case first =>
    go_region_held3 (fun w' => w'.cell? ⟨w.heap.size, 0, none⟩ = some (.int .i64 n) ∧ w'.cell? ⟨w.heap.size, 1, none⟩ = some (.int .i64 0) ∧ w'.cell? ⟨w.heap.size, 2, none⟩ = some (.int .i64 0) ∧ w'.cell? ⟨w.heap.size, 3, none⟩ = some (.int .u32 t) ∧ w'.cell? ⟨gw, 0, none⟩ = some (.int .u64 x)) (first | (go_keep; done) | (go_split_ands; (repeat' apply And.intro) <;> first | assumption | (refine (Fr.cell (S := No) (by assumption) (by first | (simp; done) | (simp; omega) | omega) id).trans ?_; first | assumption | (simp; done) | (simp; assumption)) | (refine (Fr.frozen (S := No) (by assumption) (by first | (simp; done) | (simp; omega) | omega) id).trans ?_; first | assumption | (simp; done) | (simp; assumption))))
      ((go_at_call 31; refine (Chain_at _ n t x N hp HN.out ((HO.out.keepNo hfb).drew) x0 x1 la HA.out).mono ?_; rintro e w3 ⟨A3, c3, rfl, hO3, hf3⟩))
    go_wp2_with fail
    go_meet
    exact ⟨A3, c3, rfl, rfl, hO3, ((Fr.refl No wb).drew).then hf3⟩
  case rest =>
    obtain ⟨A3, c3, rfl, rfl, hO3, hf3⟩ := hcut
    have hfw3 := hfb.then hf3
    have hB3 := hf3.keepNo hBb
    have k1c := (hf3.cell (p := ⟨gw, 1, none⟩) lw2 id).trans k1b
    have C := hB3.cells
    have p0 := C 0
    have p1 := C 1
    have p2 := C 2
    have p3 := C 3
    simp at p0 p1 p2 p3
    have lB3 := hB3.lt
    have lw3 : gw < wc.heap.size := by have := hf3.size; omega
    have hb3 := hf3.size
    have hbb := hfb.size
    clear C q0 q1 q2 q3 lB k0b k1b hf3 lw2 hBb hfb
    have hO3w := hO3.wide (S' := New w.heap.size) (fun i hi _ => by simp only [New] at *; omega)
    clear hO3 hb3
    obtain ⟨w3, hw3⟩ : ∃ w3, w3 = wc := ⟨_, rfl⟩
    rw [← hw3] at hO3w hfw3 hB3 k1c p0 p1 p2 p3 lB3 lw3 ⊢
    clear hw3
    go_wp2_with fail
    go_cut [9, 10] (fun v9 v10 wx => ∃ A cl, v9 = .slice A lb.length cl ∧ v10 = .bool true ∧ Own wx (New w3.heap.size) 23 1 (.slice A lb.length cl) lb.length (us .u32 lb) ∧ Fr No w3 wx)
    case first =>
      go_region_held3 (fun w' => w'.cell? ⟨w.heap.size, 0, none⟩ = some (.int .i64 n) ∧ w'.cell? ⟨w.heap.size, 1, none⟩ = some (.int .i64 0) ∧ w'.cell? ⟨w.heap.size, 2, none⟩ = some (.int .i64 0) ∧ w'.cell? ⟨w.heap.size, 3, none⟩ = some (.int .u32 t) ∧ w'.cell? ⟨gw, 1, none⟩ = some (.int .u64 y)) (first | (go_keep; done) | (go_split_ands; (repeat' apply And.intro) <;> first | assumption | (refine (Fr.cell (S := No) (by assumption) (by first | (simp; done) | (simp; omega) | omega) id).trans ?_; first | assumption | (simp; done) | (simp; assumption)) | (refine (Fr.frozen (S := No) (by assumption) (by first | (simp; done) | (simp; omega) | omega) id).trans ?_; first | assumption | (simp; done) | (simp; assumption))))
        ((go_at_call 31; refine (Chain_at _ n t y N hp HN.out ((HO.out.keepNo hfw3).drew) y0 y1 lb HB.out).mono ?_; rintro e w4 ⟨A4, c4, rfl, hO4, hf4⟩))
      go_wp2_with fail
      go_meet
      exact ⟨A4, c4, rfl, rfl, hO4, ((Fr.refl No w3).drew).then hf4⟩
    case rest =>
      obtain ⟨A4, c4, rfl, rfl, hO4, hf4⟩ := hcut
      have hfw4 := hfw3.then hf4
      have hB4 := hf4.keepNo hB3
      have hO3b := hO3w.keepNo hf4
      have hb4 := hf4.size
      have hO4w := hO4.wide (S' := New w.heap.size) (fun i hi _ => by simp only [New] at *; omega)
      clear p0 p1 p2 p3 k1c hf4 hB3 hO3w hO4 hfw3
      have lB4 := hB4.lt
      go_wp2_with (first
        | (at_builtin; (with_reducible refine wp_append_rd rfl _ _ 41 23 (.int .u32 0) 4 rfl Try.underlying41 info23 rfl (by decide) hO5 rfl _ rfl (us .u32 lb) hO4r (us_one _ _) (by simp only [us_len]; omega) ?_); intro v6 w6 hO6 hf6)
        | (at_builtin; (refine wp_append_rd rfl _ _ 41 23 (.int .u32 0) 4 rfl Try.underlying41 info23 rfl (by decide) (Own.lit _ (S := New wc.heap.size) (n := 0) (Nat.le_refl _) (blk_new wc #[] _) rfl (by decide)) rfl _ rfl (us .u32 la) (hO3b.alloc _).rd (us_one _ _) (by rw [us_len]; omega) ?_); intro v5 w5 hO5 hf5; have hf45 : Fr No wc w5 := ((Fr.refl No wc).alloc _).trans hf5 (fun i hi h => by simp [Row, Value.ownBlock] at h; omega); have hO4r := (hO4w.keepNo hf45).rd))
      have hI : WhInv w w6 n t v6 (la ++ lb ++ heldL hs 0) := by
        rw [us_len] at hO5 hO6
        rw [us_len] at hO6
        rw [Nat.zero_add, List.nil_append] at hO5 hO6
        have hI5 : WhInv w w5 n t v5 la := ⟨hO5.wide (fun i hi _ => by rcases hi with hi | hi; simp only [New] at *; omega; simp only [New, World.size_alloc] at *; omega), hfw4.then hf45, hf45.keepNo hB4⟩
        have hI6 := hI5.more (hO6.wide (fun i hi _ => by rcases hi with hi | hi; rcases hi with hi | hi; left; simp only [New] at *; omega; left; simp only [New, World.size_alloc] at *; omega; exact .inr hi)) hf6
        rw [show heldL hs 0 = [] from rfl, List.append_nil]
        exact hI6
      clear hf5 hf6 hf45 hO5 hO6 hO4r hO3b hO4w hfw4 hB4 lB4 hb4
      go_loopw [11, 12] (fun v11 v12 wr => ∃ i : Nat, i ≤ 4 ∧ v12 = .int .i64 i ∧ WhInv w wr n t v11 (la ++ lb ++ heldL hs i)) (fun _ v12 _ => 4 - (intOf v12).toNat)
      case atStart => exact ⟨0, by omega, rfl, hI⟩
      case round =>
        clear hI
        obtain ⟨i, hi, rfl, hI⟩ := hrel
        have hH' := HH.out.keepNo hI.2.1
        by_cases hlt : i < 4
        · have ck := own_node hH' hlt HHS.out
          have hz := HHI.out i
          obtain ⟨z, hze⟩ : ∃ z, z = hs.getD i 0 := ⟨_, rfl⟩
          have hst := held_step hs i (by have := HHS.out; omega)
          rw [← hze] at ck hz hst
          obtain ⟨z0, z1⟩ := hz
          have HST := Lib.hid hst
          have hil : (i : Int) < 4 := by omega
          have hig : (0 : Int) ≤ (i : Int) := by omega
          clear hze hst
          by_cases hz0 : z = 0
          · have hz1 : (z != 0) = false := by simpa using hz0
            have HZ := Lib.hid hz0
            clear hz0
            go_wp2_with fail
            go_roundw
            case rel => exact ⟨i + 1, by omega, by go_num, by rw [HST.out, if_pos HZ.out]; exact hI⟩
            case measure => simp [intOf]; omega
          · have hz1 : (z != 0) = true := by simpa using hz0
            have hal : (la ++ lb ++ heldL hs i).length ≤ 1000 := by
              have := List.length_filter_le (fun x => x != (0 : Int)) (hs.take i)
              have := List.length_take_le i hs
              simp only [List.length_append, heldL]
              omega
            obtain ⟨cur, hcur⟩ : ∃ cur, cur = la ++ lb ++ heldL hs i := ⟨_, rfl⟩
            rw [← hcur] at hI hal
            have HCUR := Lib.hid hcur
            have hO := hI.1
            clear hcur
            go_wp2_with (at_builtin; (refine wp_append_1 rfl _ _ 41 23 (.int .u32 0) 4 rfl Try.underlying41 info23 rfl (by decide) (by decide) hO rfl #[.int .u32 z] _ rfl rfl rfl (by intro u hu; simp at hu; subst hu; rfl) (by omega) ?_); intro g' cap' w7 hO7 hf7 hr7)
            go_roundw
            case rel =>
              refine ⟨i + 1, by omega, by go_num, ?_⟩
              rw [HST.out, if_neg hz0, ← List.append_assoc, ← HCUR.out]
              exact hI.more (l := [z]) hO7 hf7
            case measure => simp [intOf]; omega
        · have hi4 : i = 4 := by omega
          subst hi4
          rw [← HALL.out] at hI
          obtain ⟨A11, c11, rfl, _, _⟩ := hI.1.slice
          have C := hI.2.2.cells
          have q0 := C 0
          simp at q0
          clear C hlt
          have hm1 : n + 1 = ((n.toNat + 1 : Nat) : Int) := by omega
          have HM1 := Lib.hid hm1
          clear hm1
          go_wp2_with (at_make; (refine wp_make rfl _ _ 34 3 rfl (.int .i64 0) 8 Try.underlying34 info3 .i64 .i64 _ _ (n.toNat + 1) rfl rfl HM1.out HM1.out (by omega) (by simp only [maxLen]; omega) ?_); intro w7 hO7 hf7 hlt7)
          rw [made_tab, ← seen_0 n all] at hO7
          have hI7 := hI.keep hf7
          have hgs : w.heap.size < wr.heap.size := by have := hI.2.1.size; have := hI.2.2.lt; omega
          obtain ⟨gs, hgse⟩ : ∃ gs, gs = wr.heap.size := ⟨_, rfl⟩
          rw [← hgse] at hO7 hgs ⊢
          obtain ⟨M, hM⟩ : ∃ M, M = n.toNat + 1 := ⟨_, rfl⟩
          rw [← hM] at hO7 ⊢
          have HM := Lib.hid hM
          have HGS := Lib.hid hgse
          have hO7 := hO7.wide (S' := New gs) (fun i hi _ => by simp only [New] at *; omega)
          clear hI hf7 hlt7 q0 hH' hgse hM
          have hal : all.length ≤ 64 := by have := HLEN.out; omega
          go_loopw [14] (fun v14 wr => ∃ i : Nat, i ≤ all.length ∧ v14 = .int .i64 i ∧ WhInv w wr n t (.slice A11 all.length c11) all ∧ Own wr (New gs) 3 1 (.slice (some ⟨gs, 0, none⟩) M M) M (us .i64 (seenL n all i))) (fun v14 _ => 64 - (intOf v14).toNat)
          case atStart => exact ⟨0, by omega, rfl, hI7, hO7⟩
          case round =>
            clear hI7 hO7
            obtain ⟨i, hi, rfl, hI, hS⟩ := hrel
            have hsl : (seenL n all i).length = M := by rw [seenL, tab_len]; exact HM.out.symm
            by_cases hlt : i < all.length
            · obtain ⟨g11, c11', hv11, _, _, _, _, _⟩ := hI.1.form (by omega)
              cases hv11
              have ck := own_node hI.1 hlt rfl
              have hxin := HIN.out (all.getD i 0) (by rw [List.getD_eq_getElem?_getD, List.getElem?_eq_getElem hlt]; exact List.getElem_mem hlt)
              have hsg := seen_get n all i hnd hlt HIN.out
              have hst := seen_set n all i hlt HIN.out
              obtain ⟨x, hxe⟩ : ∃ x, x = all.getD i 0 := ⟨_, rfl⟩
              rw [← hxe] at ck hxin hsg hst
              obtain ⟨x1, x2⟩ := hxin
              have hxM : x.toNat < M := by have := HM.out; omega
              have hxM1 : x < (M : Int) := by omega
              have hx0 : (0 : Int) ≤ x := by omega
              obtain ⟨gs', cs', hvs, _, hgsl, _, hcs, hfs⟩ := hS.form (by omega)
              cases hvs
              have cs := hcs x.toNat (by rw [us_len, hsl]; exact hxM)
              rw [us_get _ _ _ (by rw [hsl]; exact hxM), hsg] at cs
              have fs := hfs x.toNat
              have C := hI.2.2.cells
              have q0 := C 0
              simp at q0
              have hil : (i : Int) < all.length := by omega
              have hig : (0 : Int) ≤ (i : Int) := by omega
              have hwn : IntKind.u32.wrap n = n := IntWalk.u32_in _ (by omega)
              have h1 : ¬ x < 1 := by omega
              have h2 : ¬ n < x := by omega
              have HST := Lib.hid hst
              have HSL := Lib.hid hsl
              clear hst hsl hsg hxe C hcs hfs
              go_wp2_with fail
              go_quiet (fail)
              go_wp2_with fail
              go_roundw
              case rel =>
                exact ⟨i + 1, by omega, by go_num, seen_store hI hS ((Fr.refl No wr).drewN _) hgs hxM HSL.out HST.out⟩
              case measure => simp [intOf]; omega
            · have hie : i = all.length := by omega
              have C := hI.2.2.cells
              have q0 := C 0
              simp at q0
              have hlen1 : ((all.length : Int) == n) = true := by rw [HLEN.out]; simp
              clear C
              go_wp2_with fail
              go_ret
              exact ⟨rfl, hI.2.1⟩
end Go.Proofs.Ytfglpigoljclbaa.H
