/- layout.Fresh: its words, one by one. -/
import Derived.Test.YtfglpigoljclbaaHLay
import Derived.Test.YtfglpigoljclbaaHClone
import Derived.Deep.RegionHeld3
import Derived.Deep.DrawnRows
import Derived.Deep.DeepCutAuto
set_option linter.unusedVariables false
namespace Go.Proofs.Ytfglpigoljclbaa.H
open Go.RowKit
attribute [local go_sem ↓] Go.wp_at_zero Go.wp_at_succ

theorem Word_' (w : World) (i t : Int) (h0 : 0 ≤ i) (h1 : i < 4294967296) (h2 : 0 ≤ t) (h3 : t < 4294967296) :
    Calls Try.prog 28 #[.int .u32 i, .int .u32 t] w fun e w' => e = .returned (.int .u64 (i + t * 4294967296)) ∧ w = w' := by
  go_enter Try.func28, Try.ntmps28
  go_wp2
  go_ret
  exact ⟨ret_u64 (or_word i t h0 h1 h2 h3), rfl⟩

/-- The word at place j of the fresh words, when nodes below i and slots below k are written. -/
def freshAt (n t : Int) (i k : Int) (j : Nat) : Int :=
  if j = 0 then t * 4294967296 else if j = 1 then 1 + t * 4294967296
  else if (j : Int) < 2 * i then (if j % 2 = 0 then (j : Int) / 2 + 1 else 0)
  else if (j : Int) < 2 + 2 * n then 0
  else if (j : Int) < 2 + 2 * n + k then t * 4294967296 else 0

def freshL (n s h t : Int) : List Int := tab (2 + 2 * n + s + h).toNat (freshAt n t n s)

/-- Behind the heads' words. -/
def FreshMid (w w4 : World) (g N : Nat) (n s h t : Int) : Prop :=
  Own w4 (New g) 26 1 (.slice (some ⟨g, 0, none⟩) N N) N (us .u64 (tab N (freshAt n t 1 0))) ∧ Fr No w w4 ∧ Blk w4 w.heap.size #[.int .i64 n, .int .i64 s, .int .i64 h, .int .u32 t] 25

def FreshL (w w4 : World) (g N : Nat) (n s h t : Int) (i k : Int) : Prop :=
  Own w4 (New g) 26 1 (.slice (some ⟨g, 0, none⟩) N N) N (us .u64 (tab N (freshAt n t i k))) ∧ Fr No w w4 ∧ Blk w4 w.heap.size #[.int .i64 n, .int .i64 s, .int .i64 h, .int .u32 t] 25

theorem Fresh_no (w : World) (n s h t : Int) (ok : ¬ cfgOk n s h) :
    Calls Try.prog 25 #[cfg n s h t] w fun e w' => e = .returned (.tuple #[.slice none 0 0, .int .i64 1]) ∧ Fr No w w' := by
  go_enter Try.func25, Try.ntmps25
  go_wp2_with fail
  refine (Check_no _ _ _ _ _ ok).mono ?_
  rintro e w1 ⟨rfl, hf1⟩
  go_wp2_with fail
  go_ret2
  exact ⟨rfl, by (repeat (first | exact Fr.refl _ _ | refine Fr.setCell ?_ (.inl (by first | (simp; done) | (simp; omega) | omega)) _ | refine Fr.alloc ?_ _ | refine Fr.drew ?_ | refine Fr.drewN ?_ _ | refine Fr.thenNo ?_ (by assumption)))⟩

set_option maxRecDepth 100000 in
set_option maxHeartbeats 4000000 in
theorem Fresh_yes (w : World) (n s h t : Int) (ok : cfgOk n s h) (t0 : 0 ≤ t) (t1 : t < 4294967296) :
    Calls Try.prog 25 #[cfg n s h t] w fun e w' => ∃ g cap, e = .returned (.tuple #[.slice (some ⟨g, 0, none⟩) (2 + 2 * n + s + h).toNat cap, .int .i64 0]) ∧
      Own w' (New w.heap.size) 26 1 (.slice (some ⟨g, 0, none⟩) (2 + 2 * n + s + h).toNat cap) (2 + 2 * n + s + h).toNat (us .u64 (freshL n s h t)) ∧ Fr No w w' := by
  have ok' := ok
  obtain ⟨h1, h2, h3, h4, h5, h6⟩ := ok'
  obtain ⟨N, hN⟩ : ∃ N : Nat, (2 + 2 * n + s + h) = (N : Int) := ⟨(2 + 2 * n + s + h).toNat, by omega⟩
  have HN := Lib.hid hN
  have hN' : (2 + 2 * n + s + h).toNat = N := by omega
  rw [freshL, hN']
  clear hN'
  go_enter Try.func25, Try.ntmps25
  clear hN
  go_wp2_with fail
  refine (Check_yes _ _ _ _ _ ok).mono ?_
  rintro e w1 ⟨rfl, hf1⟩
  have B1 := hf1.keepNo (blk_at w rfl)
  have C1 := B1.cells
  have Z1 := B1.lt
  go_wp2_with fail
  refine (Cells_yes _ _ _ _ _ ok).mono ?_
  rintro e w2 ⟨rfl, hf2⟩
  have B2 := hf2.keepNo B1
  have C2 := B2.cells
  have Z2 := B2.lt
  clear C1
  have hN1 : N ≤ 210 := by have := HN.out; omega
  have hN2 : 4 ≤ N := by have := HN.out; omega
  go_wp2_with (at_make; go_loud (refine wp_make rfl _ _ 36 26 rfl (.int .u64 0) 8 Try.underlying36 info26 .i64 .i64 _ _ N rfl rfl HN.out HN.out (by omega) (by simp only [maxLen]; omega) ?_; intro w3 hO hf3 hlt))
  rw [made_tab] at hO
  obtain ⟨g, hg⟩ : ∃ g, g = w2.heap.size := ⟨_, rfl⟩
  rw [← hg] at hO hlt ⊢
  have hfw : Fr No w w3 := (((Fr.refl No w).alloc _).then hf1).then (hf2.then hf3)
  have B3 := hf3.keepNo B2
  have Hg : w.heap.size < g := by omega
  have Hne : ¬ g = w.heap.size := by omega
  clear hf1 hf2 hf3 C2 Z1 Z2 B1 B2 hg
  have C3 := B3.cells
  obtain ⟨g', cap', hv, hSg, hgl, hcap, hcells, hfree⟩ := hO.form (by omega)
  cases hv
  have c0 : w3.cell? ⟨g, 0, none⟩ = some (.int .u64 0) := by rw [hcells 0 (by rw [us_len, tab_len]; omega), us_get _ _ _ (by rw [tab_len]; omega), tab_get _ _ _ (by omega)]
  have c1 : w3.cell? ⟨g, 1, none⟩ = some (.int .u64 0) := by rw [hcells 1 (by rw [us_len, tab_len]; omega), us_get _ _ _ (by rw [tab_len]; omega), tab_get _ _ _ (by omega)]
  have F0 := hfree 0
  have F1 := hfree 1
  have k3 : w3.cell? ⟨w.heap.size, 3, none⟩ = some (.int .u32 t) := by rw [C3]; rfl
  have hN3 : (1 : Int) < N := by omega
  have hN4 : (0 : Int) < N := by omega
  have hN5 : 0 < N := by omega
  have HO := Lib.hid hO
  have HC := Lib.hid hcells
  have HF := Lib.hid hfree
  clear C3 hcells hfree hO
  go_cut [] (fun w4 => FreshMid w w4 g N n s h t)
  case first =>
    go_region_held3 (fun w' => w'.cell? ⟨w.heap.size, 3, none⟩ = some (.int .u32 t)) (go_keep) ((go_at_call 28; refine (Word_' _ _ _ (by omega) (by omega) t0 t1).mono ?_; rintro e w' ⟨rfl, rfl⟩))
    go_wp2_with fail
    go_meet
    have W0 := (HO.out.set 0 (.int .u64 (t * 4294967296)) (by rw [us_len, tab_len]; omega)).set 1 (.int .u64 (1 + t * 4294967296)) (by rw [List.length_set, us_len, tab_len]; omega)
    rw [us_set, us_set, tab_set, tab_set] at W0
    refine ⟨?_, ?_, ?_⟩
    · refine (Own.drew ?_)
      rw [tab_congr (f' := fun j => if j = 1 then 1 + t * 4294967296 else if j = 0 then t * 4294967296 else 0) ?_]
      · exact W0
      · intro j _
        simp only [freshAt]
        repeat' split
        all_goals first | rfl | omega
    · exact ((hfw.setCell (.inl (by simp; omega)) _).setCell (.inl (by simp; omega)) _).drew
    · exact ((B3.far (by simpa using Ne.symm Hne) _).far (by simpa using Ne.symm Hne) _).drew
  case rest =>
    clear HO HC HF c0 c1 F0 F1 k3 hN3 hN4 hN5 hfw B3 hlt hgl
    obtain ⟨hO, hfw, hB⟩ := hcut
    go_wp2_with fail
    go_loopw [6] (fun i wr => ∃ k : Nat, 1 ≤ k ∧ (k : Int) ≤ n ∧ i = .int .u32 k ∧ FreshL w wr g N n s h t k 0) (fun i _ => 64 - (intOf i).toNat)
    case atStart => exact ⟨1, by omega, by omega, rfl, hO, hfw, hB⟩
    case round =>
      obtain ⟨k, hk1, hkn, rfl, hinv⟩ := hrel
      clear hO hfw hB
      obtain ⟨hO, hfw, hB⟩ := hinv
      have C := hB.cells
      by_cases hlt : (k : Int) < n
      · go_wp2_with fail
        refine (Next_in _ _ _ _ _ _ ok (by omega) (by omega)).mono ?_
        rintro e w5 ⟨rfl, hf5⟩
        have hO5 := hO.keepNo hf5
        have hfw5 := hfw.thenNo hf5
        have hB5 := hf5.keepNo hB
        clear C hO hfw hB
        have hlen : 2 * k < (us .u64 (tab N (freshAt n t k 0))).length := by rw [us_len, tab_len]; have := HN.out; omega
        obtain ⟨g', cap', hv, _, _, _, hcells, hfree⟩ := hO5.form (by omega)
        cases hv
        have c1 := hcells _ hlen
        rw [List.getElem?_eq_getElem hlen] at c1
        have F1 := hfree (2 * k)
        have hb1 : (0 : Int) ≤ 2 * (k : Int) := by omega
        have hb2 : 2 * (k : Int) < (N : Int) := by have := HN.out; omega
        clear hcells hfree
        go_wp2_with fail
        go_roundw
        case rel =>
          refine ⟨k + 1, by omega, by omega, by go_num, ?_, hfw5.setCell (.inl (by simp; omega)) _, hB5.far (by simpa using Ne.symm Hne) _⟩
          have W := hO5.set (2 * k) (.int .u64 ((k : Int) + 1)) hlen
          rw [us_set, tab_set] at W
          rw [tab_congr (f' := fun j => if j = 2 * k then (k : Int) + 1 else freshAt n t k 0 j) ?_]
          · exact W
          · intro j _
            simp only [freshAt]
            repeat' split
            all_goals first | rfl | omega
        case measure => simp [intOf]; omega
      · have hk : (k : Int) = n := by omega
        rw [hk] at hO
        have Hk := Lib.hid hk
        clear hk
        go_wp2_with fail
        go_loopw [43] (fun i wr => ∃ k : Nat, (k : Int) ≤ s ∧ i = .int .i64 k ∧ FreshL w wr g N n s h t n k) (fun i _ => 16 - (intOf i).toNat)
        case atStart => exact ⟨0, by omega, rfl, hO, hfw, hB⟩
        case round =>
          clear hO hfw hB C hlt hk1 hkn Hk
          obtain ⟨k, hks, rfl, hinv⟩ := hrel
          obtain ⟨hO, hfw, hB⟩ := hinv
          have C := hB.cells
          by_cases hlt : (k : Int) < s
          · have hb1 : (0 : Int) ≤ 2 + 2 * n + (k : Int) := by omega
            have hb2 : 2 + 2 * n + (k : Int) < (N : Int) := by have := HN.out; omega
            have hlen : (2 + 2 * n + (k : Int)).toNat < (us .u64 (tab N (freshAt n t n k))).length := by rw [us_len, tab_len]; omega
            obtain ⟨g', cap', hv, _, hgl, _, hcells, hfree⟩ := hO.form (by omega)
            cases hv
            have c1 := hcells _ hlen
            obtain ⟨u, hu⟩ : ∃ u, u = (us .u64 (tab N (freshAt n t n k)))[(2 + 2 * n + (k : Int)).toNat] := ⟨_, rfl⟩
            rw [List.getElem?_eq_getElem hlen, ← hu] at c1
            have F1 := hfree (2 + 2 * n + (k : Int)).toNat
            have k0 := C 0
            have k1 := C 1
            have k2 := C 2
            have k3 := C 3
            simp at k0 k1 k2 k3
            have hBl := hB.lt
            clear hcells hfree C hu
            go_wp2_with fail
            go_region_held3 (fun w' => w'.cell? ⟨w.heap.size, 0, none⟩ = some (.int .i64 n) ∧ w'.cell? ⟨w.heap.size, 1, none⟩ = some (.int .i64 s) ∧ w'.cell? ⟨w.heap.size, 2, none⟩ = some (.int .i64 h) ∧ w'.cell? ⟨w.heap.size, 3, none⟩ = some (.int .u32 t))
                (first | (go_keep; done) | (go_split_ands; (repeat' apply And.intro) <;> first | assumption | (refine (Fr.cell (S := No) (by assumption) (by first | (simp; done) | (simp; omega) | omega) id).trans ?_; first | assumption | (simp; done) | (simp; assumption)) | (refine (Fr.frozen (S := No) (by assumption) (by first | (simp; done) | (simp; omega) | omega) id).trans ?_; first | assumption | (simp; done) | (simp; assumption))))
                (first | ((go_at_call 28; refine (Word_' _ _ _ (by omega) (by omega) t0 t1).mono ?_; rintro e w' ⟨rfl, rfl⟩)) | ((go_at_call 63; refine (Slot_in _ _ _ _ _ _ ok (by omega) hlt).mono ?_; rintro e w5 ⟨rfl, hf5⟩; have c5 : w5.cell? ⟨g, (2 + 2 * n + (k : Int)).toNat, none⟩ = some u := (hf5.cell (by simp; omega) id).trans c1; have F5 : w5.frozen? ⟨g, (2 + 2 * n + (k : Int)).toNat, none⟩ = false := (hf5.frozen (by simp; omega) id).trans F1)))
            all_goals
              go_wp2_with fail
              go_roundw
              case rel =>
                refine ⟨k + 1, by omega, by go_num, ?_, ((hfw.drew).thenNo hf5).setCell (.inl (by simp; omega)) _, (hf5.keepNo hB.drew).far (by simpa using Ne.symm Hne) _⟩
                have W := (hO.drew.keepNo hf5).set (2 + 2 * n + (k : Int)).toNat (.int .u64 (t * 4294967296)) hlen
                rw [us_set, tab_set] at W
                rw [tab_congr (f' := fun j => if j = (2 + 2 * n + (k : Int)).toNat then t * 4294967296 else freshAt n t n k j) ?_]
                · exact W
                · intro j _
                  simp only [freshAt]
                  repeat' split
                  all_goals first | rfl | omega
              case measure => simp [intOf]; omega
          · have hk : (k : Int) = s := by omega
            rw [hk] at hO
            clear hk
            go_wp2_with fail
            go_ret2
            exact ⟨g, N, rfl, hO.wide (fun i hi _ => by simp only [New] at *; omega), hfw⟩
end Go.Proofs.Ytfglpigoljclbaa.H
