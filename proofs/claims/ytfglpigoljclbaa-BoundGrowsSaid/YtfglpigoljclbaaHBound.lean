/- Contracts of the package bound, for a right config. -/
import Derived.Test.YtfglpigoljclbaaHLay
import Derived.Test.YtfglpigoljclbaaHSl
import Derived.Deep.RegionHeld3
import Derived.Deep.DrawnRows
import Derived.Deep.DeepCutAuto
set_option linter.unusedVariables false
set_option linter.unusedSimpArgs false
namespace Go.Proofs.Ytfglpigoljclbaa.H
open Go.RowKit
attribute [local go_sem ↓] Go.wp_at_zero Go.wp_at_succ

abbrev ecells (n s h t b ba wt : Int) : Array Value := #[.int .i64 n, .int .i64 s, .int .i64 h, .int .u32 t, .int .i64 b, .int .i64 ba, .int .u64 wt]
abbrev ecfg (n s h t b ba wt : Int) : Value := .agg (ecells n s h t b ba wt)

def ecfgOk (n s h b ba : Int) : Prop := cfgOk n s h ∧ 0 ≤ b ∧ b ≤ 16 ∧ 1 ≤ ba ∧ ba ≤ 64

theorem info3 : (Try.prog.info? 3).map (fun i => (i.zero, i.size, i.bytes)) = some (some (.int .i64 0), 1, 8) := by kernel_rfl

theorem ECheck_yes (w : World) (n s h t b ba wt : Int) (ok : ecfgOk n s h b ba) :
    Calls Try.prog 90 #[ecfg n s h t b ba wt] w fun e w' => e = .returned (.int .i64 0) ∧ Fr No w w' := by
  obtain ⟨ok, h1, h2, h3, h4⟩ := ok
  go_enter Try.func90, Try.ntmps90
  go_wp2_with fail
  refine (Check_yes _ _ _ _ _ ok).mono ?_
  rintro e w1 ⟨rfl, hf1⟩
  have C := (hf1.keepNo (blk_at w rfl)).cells
  go_wp2_with fail
  go_ret
  exact ⟨rfl, by (repeat (first | exact Fr.refl _ _ | refine Fr.setCell ?_ (.inl (by first | (simp; done) | (simp; omega) | omega)) _ | refine Fr.alloc ?_ _ | refine Fr.drew ?_ | refine Fr.drewN ?_ _ | refine Fr.thenNo ?_ (by assumption)))⟩

/-- The sum of some small numbers. -/
theorem sum_yes (w : World) (S : Nat → Prop) (n s h t b ba wt : Int) (ok : ecfgOk n s h b ba) (v : Value) (l : List Int) (hv : Rd w S v (us .i64 l)) (hl : l.length ≤ 5) (hs : ∀ x ∈ l, 0 ≤ x ∧ x ≤ 100000) :
    Calls Try.prog 60 #[ecfg n s h t b ba wt, v] w fun e w' => e = .returned (.int .i64 l.sum) ∧ Fr No w w' := by
  obtain ⟨A, c, rfl, hlc, hcm, hcell⟩ := hv
  rw [us_len] at hlc hcell ⊢
  have HC := Lib.hid hcell
  clear hcell
  have hsum : ∀ k, 0 ≤ (l.take k).sum ∧ (l.take k).sum ≤ 100000 * k := by
    intro k
    induction k with
    | zero => simp
    | succ k ih =>
      by_cases hk : k < l.length
      · rw [List.take_succ_eq_append_getElem hk, List.sum_append]
        have := hs _ (List.getElem_mem hk)
        simp
        omega
      · rw [List.take_of_length_le (by omega)] at ih ⊢
        omega
  have HS := Lib.hid hsum
  clear hsum
  go_enter Try.func60, Try.ntmps60
  go_wp2_with fail
  go_loopw [5, 10] (fun n5 i wr => ∃ k : Nat, k ≤ l.length ∧ i = .int .i64 k ∧ n5 = .int .i64 (l.take k).sum ∧ wr = w.alloc (.cells (ecells n s h t b ba wt) 28)) (fun _ i _ => 5 - (intOf i).toNat)
  case atStart => exact ⟨0, by omega, rfl, rfl, rfl⟩
  case round =>
    obtain ⟨k, hk, rfl, rfl, rfl⟩ := hrel
    have hb := HS.out k
    obtain ⟨hb1, hb2⟩ := hb
    by_cases hlt : k < l.length
    · obtain ⟨g, o, rfl, _, hc⟩ := HC.out (by omega)
      have hck := hc k hlt
      rw [us_get _ _ _ hlt] at hck
      have hlk := World.block_lt_of_cell? w _ hck
      simp only at hlk
      rw [← World.cell?_alloc_lt w (.cells (ecells n s h t b ba wt) 28) _ hlk] at hck
      have hy := hs _ (List.getElem_mem hlt)
      obtain ⟨y, hye⟩ : ∃ y, y = l.getD k 0 := ⟨_, rfl⟩
      rw [← hye] at hck
      have e2 : l[k] = y := by rw [hye, List.getD_eq_getElem?_getD, List.getElem?_eq_getElem hlt]; rfl
      rw [e2] at hy
      obtain ⟨hy1, hy2⟩ := hy
      have HT : Hid ((l.take (k + 1)).sum = (l.take k).sum + y) := by
        show _ = _
        rw [List.take_succ_eq_append_getElem hlt, List.sum_append, e2]; simp
      clear hc hye e2
      obtain ⟨q, hq⟩ : ∃ q, q = (l.take k).sum := ⟨_, rfl⟩
      rw [← hq] at hb1 hb2 HT ⊢
      have HQ := Lib.hid hq
      clear hq
      have hq2 : q ≤ 1000000 := by omega
      go_wp2_with fail
      go_roundw
      case rel => exact ⟨k + 1, by omega, by go_num, by rw [HT.out], by first | trivial | rfl⟩
      case measure => simp [intOf]; omega
    · have hkl : k = l.length := by omega
      have hck : (l.take k).sum = l.sum := by rw [List.take_of_length_le (by omega)]
      rw [hck]
      clear hck
      subst hkl
      go_wp2_with fail
      refine (ECheck_yes _ _ _ _ _ _ _ _ ok).mono ?_
      rintro e w1 ⟨rfl, hf1⟩
      go_wp2_with fail
      go_ret
      exact ⟨rfl, by (repeat (first | exact Fr.refl _ _ | refine Fr.setCell ?_ (.inl (by first | (simp; done) | (simp; omega) | omega)) _ | refine Fr.alloc ?_ _ | refine Fr.drew ?_ | refine Fr.drewN ?_ _ | refine Fr.thenNo ?_ (by assumption)))⟩

theorem tries_yes (w : World) (n s h t b ba wt : Int) (hb : 0 ≤ b) (hb2 : b ≤ 16) :
    Calls Try.prog 61 #[ecfg n s h t b ba wt] w fun e w' => e = .returned (.int .i64 (3 * (b + 1))) ∧ Fr No w w' := by
  go_enter Try.func61, Try.ntmps61
  go_wp2_with fail
  go_ret
  exact ⟨rfl, by (repeat (first | exact Fr.refl _ _ | refine Fr.setCell ?_ (.inl (by first | (simp; done) | (simp; omega) | omega)) _ | refine Fr.alloc ?_ _ | refine Fr.drew ?_ | refine Fr.drewN ?_ _ | refine Fr.thenNo ?_ (by assumption)))⟩

def visitV (s : Int) : Int := if s = 0 then 0 else 69

theorem Visit_yes (w : World) (n s h t b ba wt : Int) (ok : ecfgOk n s h b ba) :
    Calls Try.prog 91 #[ecfg n s h t b ba wt] w fun e w' => e = .returned (.int .i64 (visitV s)) ∧ Fr No w w' := by
  by_cases hs : s = 0
  · subst hs
    go_enter Try.func91, Try.ntmps91
    go_wp2_with fail
    go_ret
    exact ⟨rfl, by (repeat (first | exact Fr.refl _ _ | refine Fr.setCell ?_ (.inl (by first | (simp; done) | (simp; omega) | omega)) _ | refine Fr.alloc ?_ _ | refine Fr.drew ?_ | refine Fr.drewN ?_ _ | refine Fr.thenNo ?_ (by assumption)))⟩
  · have hsb : (s == 0) = false := by simpa using hs
    have hvv : visitV s = 69 := by rw [visitV, if_neg hs]
    rw [hvv]
    go_enter Try.func91, Try.ntmps91
    go_wp2_with fail
    refine (sum_yes _ (fun _ => True) _ _ _ _ _ _ _ ok _ [64, 5] ⟨_, _, rfl, by simp [us], by simp [maxLen], fun _ => ⟨_, _, rfl, trivial, fun j hj => ?_⟩⟩ (by simp) (by simp)).mono ?_
    · simp only [us_len, List.length_cons, List.length_nil] at hj
      match j, hj with
      | 0, _ => simp [us]
      | 1, _ => simp [us]
    · rintro e w1 ⟨rfl, hf1⟩
      go_wp2_with fail
      go_ret
      exact ⟨rfl, by (repeat (first | exact Fr.refl _ _ | refine Fr.setCell ?_ (.inl (by first | (simp; done) | (simp; omega) | omega)) _ | refine Fr.alloc ?_ _ | refine Fr.drew ?_ | refine Fr.drewN ?_ _ | refine Fr.thenNo ?_ (by assumption)))⟩

theorem Rd.lit {w : World} {g m : Nat} {cs : Array Value} {t : TypeId} {k : IntKind} {l : List Int} (hB : Blk w g cs t) (hcs : cs.toList = us k l) (hl : m = l.length) (hm : l.length ≤ 9223372036854775807) :
    Rd w (fun _ => True) (.slice (some ⟨g, 0, none⟩) m m) (us k l) := by
  subst hl
  refine ⟨some ⟨g, 0, none⟩, l.length, by rw [us_len], by rw [us_len]; exact Nat.le_refl _, hm, fun _ => ⟨g, 0, rfl, trivial, fun j hj => ?_⟩⟩
  rw [Nat.zero_add, hB.cells, ← hcs, Array.getElem?_toList]

theorem visitV_bd (s : Int) : 0 ≤ visitV s ∧ visitV s ≤ 69 := by rw [visitV]; split <;> omega
theorem bv_bd (b s : Int) (hb0 : 0 ≤ b) (hb1 : b ≤ 16) : 0 ≤ b * visitV s ∧ b * visitV s ≤ 1104 :=
  ⟨Int.mul_nonneg hb0 (visitV_bd s).1, Int.le_trans (Int.mul_le_mul hb1 (visitV_bd s).2 (visitV_bd s).1 (by omega)) (by omega)⟩

set_option maxHeartbeats 1000000 in
theorem visits_yes (w : World) (n s h t b ba wt : Int) (ok : ecfgOk n s h b ba) :
    Calls Try.prog 62 #[ecfg n s h t b ba wt] w fun e w' => e = .returned (.int .i64 (b * visitV s)) ∧ Fr No w w' := by
  have hm := bv_bd b s ok.2.1 ok.2.2.1
  have hw : IntKind.i64.wrap (b * visitV s) = b * visitV s := IntWalk.i64_in _ (by omega)
  go_enter Try.func62, Try.ntmps62
  go_wp2_with fail
  go_region_held3 (fun w' => w'.cell? ⟨w.heap.size, 0, none⟩ = some (.int .i64 n) ∧ w'.cell? ⟨w.heap.size, 1, none⟩ = some (.int .i64 s) ∧ w'.cell? ⟨w.heap.size, 2, none⟩ = some (.int .i64 h) ∧ w'.cell? ⟨w.heap.size, 3, none⟩ = some (.int .u32 t) ∧ w'.cell? ⟨w.heap.size, 4, none⟩ = some (.int .i64 b) ∧ w'.cell? ⟨w.heap.size, 5, none⟩ = some (.int .i64 ba) ∧ w'.cell? ⟨w.heap.size, 6, none⟩ = some (.int .u64 wt)) (first | go_keep | (go_split_ands; (repeat' apply And.intro) <;> first | assumption | (refine (Fr.cell (S := No) (by assumption) (by first | (simp; done) | (simp; omega) | omega) id).trans ?_; first | assumption | (simp; done) | (simp; assumption)) | (refine (Fr.frozen (S := No) (by assumption) (by first | (simp; done) | (simp; omega) | omega) id).trans ?_; first | assumption | (simp; done) | (simp; assumption)))) ((go_at_call 91; refine (Visit_yes _ _ _ _ _ _ _ _ ok).mono ?_; rintro e w5 ⟨rfl, hf5⟩))
  go_wp2_with fail
  go_ret
  exact ⟨by rw [← hw]; rfl, by (repeat (first | exact Fr.refl _ _ | refine Fr.setCell ?_ (.inl (by first | (simp; done) | (simp; omega) | omega)) _ | refine Fr.alloc ?_ _ | refine Fr.drew ?_ | refine Fr.drewN ?_ _ | refine Fr.thenNo ?_ (by assumption)))⟩

def pushV (b s : Int) : Int := 9 * (b + 1) + 1 + b * visitV s
def popV (b s : Int) : Int := 6 * (b + 1) + 1 + b * visitV s
theorem pushV_bd (b s : Int) (hb0 : 0 ≤ b) (hb1 : b ≤ 16) : 0 ≤ pushV b s ∧ pushV b s ≤ 2000 := by have := bv_bd b s hb0 hb1; unfold pushV; omega
theorem popV_bd (b s : Int) (hb0 : 0 ≤ b) (hb1 : b ≤ 16) : 0 ≤ popV b s ∧ popV b s ≤ 2000 := by have := bv_bd b s hb0 hb1; unfold popV; omega

set_option maxHeartbeats 4000000 in
theorem Push_yes (w : World) (n s h t b ba wt : Int) (ok : ecfgOk n s h b ba) :
    Calls Try.prog 18 #[ecfg n s h t b ba wt] w fun e w' => e = .returned (.int .i64 (pushV b s)) ∧ Fr No w w' := by
  have hm := bv_bd b s ok.2.1 ok.2.2.1
  have hb0 := ok.2.1
  have hb1 := ok.2.2.1
  go_enter Try.func18, Try.ntmps18
  go_wp2_with fail
  go_region_held3 (fun w' => w'.cell? ⟨w.heap.size, 0, none⟩ = some (.int .i64 n) ∧ w'.cell? ⟨w.heap.size, 1, none⟩ = some (.int .i64 s) ∧ w'.cell? ⟨w.heap.size, 2, none⟩ = some (.int .i64 h) ∧ w'.cell? ⟨w.heap.size, 3, none⟩ = some (.int .u32 t) ∧ w'.cell? ⟨w.heap.size, 4, none⟩ = some (.int .i64 b) ∧ w'.cell? ⟨w.heap.size, 5, none⟩ = some (.int .i64 ba) ∧ w'.cell? ⟨w.heap.size, 6, none⟩ = some (.int .u64 wt)) (first | go_keep | (go_split_ands; (repeat' apply And.intro) <;> first | assumption | (refine (Fr.cell (S := No) (by assumption) (by first | (simp; done) | (simp; omega) | omega) id).trans ?_; first | assumption | (simp; done) | (simp; assumption)) | (refine (Fr.frozen (S := No) (by assumption) (by first | (simp; done) | (simp; omega) | omega) id).trans ?_; first | assumption | (simp; done) | (simp; assumption)))) (first | ((go_at_call 61; refine (tries_yes _ _ _ _ _ _ _ _ hb0 hb1).mono ?_; rintro e w5 ⟨rfl, hf5⟩; have z5 := hf5.size; (try simp only [World.size_drew, World.size_alloc] at z5))) | ((go_at_call 62; refine (visits_yes _ _ _ _ _ _ _ _ ok).mono ?_; rintro e w5 ⟨rfl, hf5⟩; have z5 := hf5.size; (try simp only [World.size_drew, World.size_alloc] at z5))) | ((go_at_call 60; refine (sum_yes _ (fun _ => True) _ _ _ _ _ _ _ ok _ [3 * (b + 1), 1, 3 * (b + 1), b * visitV s, 3 * (b + 1)] (Rd.lit (blk_new _ _ _) rfl rfl (by simp)) (by simp) (by simp; omega)).mono ?_; rintro e w5 ⟨rfl, hf5⟩; have z5 := hf5.size; (try simp only [World.size_drew, World.size_alloc] at z5))))
  go_wp2_with fail
  go_ret
  exact ⟨ret_u64 (by unfold pushV; omega), by (repeat (first | exact Fr.refl _ _ | refine Fr.setCell ?_ (.inl (by first | (simp; done) | (simp; omega) | omega)) _ | refine Fr.alloc ?_ _ | refine Fr.drew ?_ | refine Fr.drewN ?_ _ | refine Fr.thenNo ?_ (by assumption)))⟩

set_option maxHeartbeats 4000000 in
theorem Pop_yes (w : World) (n s h t b ba wt : Int) (ok : ecfgOk n s h b ba) :
    Calls Try.prog 19 #[ecfg n s h t b ba wt] w fun e w' => e = .returned (.int .i64 (popV b s)) ∧ Fr No w w' := by
  have hm := bv_bd b s ok.2.1 ok.2.2.1
  have hb0 := ok.2.1
  have hb1 := ok.2.2.1
  go_enter Try.func19, Try.ntmps19
  go_wp2_with fail
  go_region_held3 (fun w' => w'.cell? ⟨w.heap.size, 0, none⟩ = some (.int .i64 n) ∧ w'.cell? ⟨w.heap.size, 1, none⟩ = some (.int .i64 s) ∧ w'.cell? ⟨w.heap.size, 2, none⟩ = some (.int .i64 h) ∧ w'.cell? ⟨w.heap.size, 3, none⟩ = some (.int .u32 t) ∧ w'.cell? ⟨w.heap.size, 4, none⟩ = some (.int .i64 b) ∧ w'.cell? ⟨w.heap.size, 5, none⟩ = some (.int .i64 ba) ∧ w'.cell? ⟨w.heap.size, 6, none⟩ = some (.int .u64 wt)) (first | go_keep | (go_split_ands; (repeat' apply And.intro) <;> first | assumption | (refine (Fr.cell (S := No) (by assumption) (by first | (simp; done) | (simp; omega) | omega) id).trans ?_; first | assumption | (simp; done) | (simp; assumption)) | (refine (Fr.frozen (S := No) (by assumption) (by first | (simp; done) | (simp; omega) | omega) id).trans ?_; first | assumption | (simp; done) | (simp; assumption)))) (first | ((go_at_call 61; refine (tries_yes _ _ _ _ _ _ _ _ hb0 hb1).mono ?_; rintro e w5 ⟨rfl, hf5⟩; have z5 := hf5.size; (try simp only [World.size_drew, World.size_alloc] at z5))) | ((go_at_call 62; refine (visits_yes _ _ _ _ _ _ _ _ ok).mono ?_; rintro e w5 ⟨rfl, hf5⟩; have z5 := hf5.size; (try simp only [World.size_drew, World.size_alloc] at z5))) | ((go_at_call 60; refine (sum_yes _ (fun _ => True) _ _ _ _ _ _ _ ok _ [3 * (b + 1), b * visitV s, 1, 3 * (b + 1)] (Rd.lit (blk_new _ _ _) rfl rfl (by simp)) (by simp) (by simp; omega)).mono ?_; rintro e w5 ⟨rfl, hf5⟩; have z5 := hf5.size; (try simp only [World.size_drew, World.size_alloc] at z5))))
  go_wp2_with fail
  go_ret
  exact ⟨ret_u64 (by unfold popV; omega), by (repeat (first | exact Fr.refl _ _ | refine Fr.setCell ?_ (.inl (by first | (simp; done) | (simp; omega) | omega)) _ | refine Fr.alloc ?_ _ | refine Fr.drew ?_ | refine Fr.drewN ?_ _ | refine Fr.thenNo ?_ (by assumption)))⟩

set_option maxHeartbeats 4000000 in
theorem Acquire_yes (w : World) (n s h t b ba wt : Int) (ok : ecfgOk n s h b ba) :
    Calls Try.prog 21 #[ecfg n s h t b ba wt] w fun e w' => e = .returned (.int .i64 (popV b s + 1)) ∧ Fr No w w' := by
  have hm := popV_bd b s ok.2.1 ok.2.2.1
  go_enter Try.func21, Try.ntmps21
  go_wp2_with fail
  go_region_held3 (fun w' => w'.cell? ⟨w.heap.size, 0, none⟩ = some (.int .i64 n) ∧ w'.cell? ⟨w.heap.size, 1, none⟩ = some (.int .i64 s) ∧ w'.cell? ⟨w.heap.size, 2, none⟩ = some (.int .i64 h) ∧ w'.cell? ⟨w.heap.size, 3, none⟩ = some (.int .u32 t) ∧ w'.cell? ⟨w.heap.size, 4, none⟩ = some (.int .i64 b) ∧ w'.cell? ⟨w.heap.size, 5, none⟩ = some (.int .i64 ba) ∧ w'.cell? ⟨w.heap.size, 6, none⟩ = some (.int .u64 wt)) (first | go_keep | (go_split_ands; (repeat' apply And.intro) <;> first | assumption | (refine (Fr.cell (S := No) (by assumption) (by first | (simp; done) | (simp; omega) | omega) id).trans ?_; first | assumption | (simp; done) | (simp; assumption)) | (refine (Fr.frozen (S := No) (by assumption) (by first | (simp; done) | (simp; omega) | omega) id).trans ?_; first | assumption | (simp; done) | (simp; assumption)))) (first | ((go_at_call 19; refine (Pop_yes _ _ _ _ _ _ _ _ ok).mono ?_; rintro e w5 ⟨rfl, hf5⟩; have z5 := hf5.size; (try simp only [World.size_drew, World.size_alloc] at z5))) | ((go_at_call 60; refine (sum_yes _ (fun _ => True) _ _ _ _ _ _ _ ok _ [popV b s, 1] (Rd.lit (blk_new _ _ _) rfl rfl (by simp)) (by simp) (by simp; omega)).mono ?_; rintro e w5 ⟨rfl, hf5⟩; have z5 := hf5.size; (try simp only [World.size_drew, World.size_alloc] at z5))))
  go_wp2_with fail
  go_ret
  exact ⟨ret_u64 (by simp), by (repeat (first | exact Fr.refl _ _ | refine Fr.setCell ?_ (.inl (by first | (simp; done) | (simp; omega) | omega)) _ | refine Fr.alloc ?_ _ | refine Fr.drew ?_ | refine Fr.drewN ?_ _ | refine Fr.thenNo ?_ (by assumption)))⟩

set_option maxHeartbeats 4000000 in
theorem Release_yes (w : World) (n s h t b ba wt : Int) (ok : ecfgOk n s h b ba) :
    Calls Try.prog 22 #[ecfg n s h t b ba wt] w fun e w' => e = .returned (.int .i64 (pushV b s + 3)) ∧ Fr No w w' := by
  have hm := pushV_bd b s ok.2.1 ok.2.2.1
  go_enter Try.func22, Try.ntmps22
  go_wp2_with fail
  go_region_held3 (fun w' => w'.cell? ⟨w.heap.size, 0, none⟩ = some (.int .i64 n) ∧ w'.cell? ⟨w.heap.size, 1, none⟩ = some (.int .i64 s) ∧ w'.cell? ⟨w.heap.size, 2, none⟩ = some (.int .i64 h) ∧ w'.cell? ⟨w.heap.size, 3, none⟩ = some (.int .u32 t) ∧ w'.cell? ⟨w.heap.size, 4, none⟩ = some (.int .i64 b) ∧ w'.cell? ⟨w.heap.size, 5, none⟩ = some (.int .i64 ba) ∧ w'.cell? ⟨w.heap.size, 6, none⟩ = some (.int .u64 wt)) (first | go_keep | (go_split_ands; (repeat' apply And.intro) <;> first | assumption | (refine (Fr.cell (S := No) (by assumption) (by first | (simp; done) | (simp; omega) | omega) id).trans ?_; first | assumption | (simp; done) | (simp; assumption)) | (refine (Fr.frozen (S := No) (by assumption) (by first | (simp; done) | (simp; omega) | omega) id).trans ?_; first | assumption | (simp; done) | (simp; assumption)))) (first | ((go_at_call 18; refine (Push_yes _ _ _ _ _ _ _ _ ok).mono ?_; rintro e w5 ⟨rfl, hf5⟩; have z5 := hf5.size; (try simp only [World.size_drew, World.size_alloc] at z5))) | ((go_at_call 60; refine (sum_yes _ (fun _ => True) _ _ _ _ _ _ _ ok _ [1, 1, pushV b s, 1] (Rd.lit (blk_new _ _ _) rfl rfl (by simp)) (by simp) (by simp; omega)).mono ?_; rintro e w5 ⟨rfl, hf5⟩; have z5 := hf5.size; (try simp only [World.size_drew, World.size_alloc] at z5))))
  go_wp2_with fail
  go_ret
  exact ⟨ret_u64 (by first | omega | (simp; omega)), by (repeat (first | exact Fr.refl _ _ | refine Fr.setCell ?_ (.inl (by first | (simp; done) | (simp; omega) | omega)) _ | refine Fr.alloc ?_ _ | refine Fr.drew ?_ | refine Fr.drewN ?_ _ | refine Fr.thenNo ?_ (by assumption)))⟩

/-- Window, of a stack's config and few threads. -/
theorem Window_yes (w : World) (n s t b ba wt m : Int) (ok : ecfgOk n s 0 b ba) (hm0 : 0 ≤ m) (hm1 : m ≤ 1001) :
    Calls Try.prog 20 #[ecfg n s 0 t b ba wt, .int .i64 m] w fun e w' => e = .returned (.int .i64 (m * pushV b s)) ∧ Fr No w w' := by
  have hm := pushV_bd b s ok.2.1 ok.2.2.1
  have h1 : 0 ≤ m * pushV b s := Int.mul_nonneg hm0 hm.1
  have h2 : m * pushV b s ≤ 1001 * 2000 := Int.mul_le_mul hm1 hm.2 hm.1 (by omega)
  go_enter Try.func20, Try.ntmps20
  go_wp2_with fail
  refine (Push_yes _ _ _ _ _ _ _ _ ok).mono ?_
  rintro e w5 ⟨rfl, hf5⟩
  go_wp2_with fail
  go_ret
  exact ⟨rfl, by (repeat (first | exact Fr.refl _ _ | refine Fr.setCell ?_ (.inl (by first | (simp; done) | (simp; omega) | omega)) _ | refine Fr.alloc ?_ _ | refine Fr.drew ?_ | refine Fr.drewN ?_ _ | refine Fr.thenNo ?_ (by assumption)))⟩

end Go.Proofs.Ytfglpigoljclbaa.H
