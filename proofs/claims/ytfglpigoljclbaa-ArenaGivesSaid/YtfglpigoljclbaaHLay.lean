/- Contracts of the package layout: Check, begins, at, Next, Value, Slot, Holder, Cells. -/
import Derived.Test.YtfglpigoljclbaaHPack
import Derived.Deep.QuietTactic
import Derived.BigQuiet
set_option linter.unusedVariables false
namespace Go.Proofs.Ytfglpigoljclbaa.H
open Go.RowKit

/-- The config as a value. -/
abbrev cfg (n s h t : Int) : Value := .agg #[.int .i64 n, .int .i64 s, .int .i64 h, .int .u32 t]
def cfgOk (n s h : Int) : Prop := 1 ≤ n ∧ n ≤ 64 ∧ 0 ≤ s ∧ s ≤ 16 ∧ 0 ≤ h ∧ h ≤ 64

theorem Check_yes (w : World) (n s h t : Int) (ok : cfgOk n s h) :
    Calls Try.prog 64 #[cfg n s h t] w fun e w' => e = .returned (.int .i64 0) ∧ Fr No w w' := by
  obtain ⟨h1, h2, h3, h4, h5, h6⟩ := ok
  go_enter Try.func64, Try.ntmps64
  go_wp2
  go_ret
  exact ⟨rfl, (Fr.refl _ _).alloc _⟩

theorem Check_no (w : World) (n s h t : Int) (ok : ¬ cfgOk n s h) :
    Calls Try.prog 64 #[cfg n s h t] w fun e w' => e = .returned (.int .i64 1) ∧ Fr No w w' := by
  unfold cfgOk at ok
  go_enter Try.func64, Try.ntmps64
  go_wp2
  all_goals
    go_ret
    exact ⟨rfl, (Fr.refl _ _).alloc _⟩

set_option maxRecDepth 100000 in
theorem begins_no (w : World) (n s h t : Int) (ok : ¬ cfgOk n s h) :
    Calls Try.prog 65 #[cfg n s h t] w fun e w' => e = .returned (.agg #[.int .i64 0, .int .i64 0, .int .i64 0, .int .i64 0]) ∧ Fr No w w' := by
  go_enter Try.func65, Try.ntmps65
  go_wp2_with fail
  refine (Check_no _ _ _ _ _ ok).mono ?_
  rintro e w1 ⟨rfl, hf1⟩
  have B := hf1.keepNo (blk_at _ (k := w.heap.size + 1) (by simp))
  have C := B.cells
  have F := B.free
  go_wp2_with fail
  refine bodyPost_ret (v := .agg #[.int .i64 0, .int .i64 0, .int .i64 0, .int .i64 0]) (by simp [results, Try.results65, go_sem, C]) rfl ⟨rfl, ?_⟩
  (repeat (first | exact Fr.refl _ _ | refine Fr.setCell ?_ (.inl (by first | (simp; done) | (simp; omega) | omega)) _ | refine Fr.alloc ?_ _ | refine Fr.drew ?_ | refine Fr.drewN ?_ _ | refine Fr.thenNo ?_ (by assumption)))

theorem ix0 (a b c : Value) (w : World) : (Instr.index 147 (.agg #[a, b, c]) (.int .i64 0)).run Try.prog w = .ok a w := by kernel_rfl
theorem ix1 (a b c : Value) (w : World) : (Instr.index 147 (.agg #[a, b, c]) (.int .i64 1)).run Try.prog w = .ok b w := by kernel_rfl
theorem ix2 (a b c : Value) (w : World) : (Instr.index 147 (.agg #[a, b, c]) (.int .i64 2)).run Try.prog w = .ok c w := by kernel_rfl

set_option maxRecDepth 100000 in
theorem begins_yes (w : World) (n s h t : Int) (ok : cfgOk n s h) :
    Calls Try.prog 65 #[cfg n s h t] w fun e w' => e = .returned (.agg #[.int .i64 2, .int .i64 (2 + 2 * n), .int .i64 (2 + 2 * n + s), .int .i64 (2 + 2 * n + s + h)]) ∧ Fr No w w' := by
  have ok' := ok
  obtain ⟨h1, h2, h3, h4, h5, h6⟩ := ok'
  go_enter Try.func65, Try.ntmps65
  go_wp2_with fail
  refine (Check_yes _ _ _ _ _ ok).mono ?_
  rintro e w1 ⟨rfl, hf1⟩
  have B := hf1.keepNo (blk_at _ (k := w.heap.size + 1) (by simp))
  have C := B.cells
  have F := B.free
  have C0 := (hf1.keepNo ((blk_at w rfl).alloc _)).cells
  have Z := hf1.size
  simp only [World.size_alloc] at Z
  have Z0 : w.heap.size < w1.heap.size := by omega
  have Z1 : w.heap.size + 1 < w1.heap.size := by omega
  go_wp2_with fail
  have i0 := ix0
  have i1 := ix1
  have i2 := ix2
  refine wp_loop_rounds 4 ?_
  rw [rounds_succ]
  go_wp2_with fail
  rw [rounds_succ]
  go_wp2_with fail
  rw [rounds_succ]
  go_wp2_with fail
  rw [rounds_succ]
  go_wp2_with fail
  refine bodyPost_ret (v := .agg #[.int .i64 2, .int .i64 (2 + 2 * n), .int .i64 (2 + 2 * n + s), .int .i64 (2 + 2 * n + s + h)]) (by simp [results, Try.results65, go_sem, C, Z1]) rfl ⟨rfl, ?_⟩
  (repeat (first | exact Fr.refl _ _ | refine Fr.setCell ?_ (.inl (by first | (simp; done) | (simp; omega) | omega)) _ | refine Fr.alloc ?_ _ | refine Fr.drew ?_ | refine Fr.drewN ?_ _ | refine Fr.thenNo ?_ (by assumption)))


set_option maxRecDepth 100000 in
theorem at0_in (w : World) (n s h t k : Int) (ok : cfgOk n s h) (k0 : 0 ≤ k) (k1 : k < 2 * n) :
    Calls Try.prog 66 #[cfg n s h t, .int .i64 0, .int .i64 k] w fun e w' => e = .returned (.int .i64 (2 + k)) ∧ Fr No w w' := by
  have ok' := ok
  obtain ⟨h1, h2, h3, h4, h5, h6⟩ := ok'
  go_enter Try.func66, Try.ntmps66
  go_wp2_with fail
  refine (begins_yes _ _ _ _ _ ok).mono ?_
  rintro e w1 ⟨rfl, hf1⟩
  go_wp2_with fail
  have e1 : IntKind.i64.wrap 1 = 1 := by decide
  have e2 : decide (k < 0) = false := by simpa using k0
  have e3 : IntKind.i64.wrap (2 + 2 * n - 2) = 2 + 2 * n - 2 := by rw [IntWalk.i64_in _ (by omega)]
  have e4 : decide (2 + 2 * n - 2 ≤ k) = false := by simp; omega
  go_quiet (fail)
  clear e1 e2 e3 e4
  go_wp2_with fail
  go_ret
  exact ⟨rfl, by (repeat (first | exact Fr.refl _ _ | refine Fr.setCell ?_ (.inl (by first | (simp; done) | (simp; omega) | omega)) _ | refine Fr.alloc ?_ _ | refine Fr.drew ?_ | refine Fr.drewN ?_ _ | refine Fr.thenNo ?_ (by assumption)))⟩

set_option maxRecDepth 100000 in
theorem at0_out (w : World) (n s h t k : Int) (hk : ¬ cfgOk n s h ∨ k < 0 ∨ 2 * n ≤ k) :
    Calls Try.prog 66 #[cfg n s h t, .int .i64 0, .int .i64 k] w fun e w' => e = .returned (.int .i64 (-1)) ∧ Fr No w w' := by
  by_cases k0 : k < 0
  · have e2 : decide (k < 0) = true := by simpa using k0
    go_enter Try.func66, Try.ntmps66
    go_wp2_with fail
    by_cases ok : cfgOk n s h
    · refine (begins_yes _ _ _ _ _ ok).mono ?_
      rintro e w1 ⟨rfl, hf1⟩
      go_wp2_with fail
      go_quiet (fail)
      clear e2
      go_wp2_with fail
      go_ret
      exact ⟨rfl, by (repeat (first | exact Fr.refl _ _ | refine Fr.setCell ?_ (.inl (by first | (simp; done) | (simp; omega) | omega)) _ | refine Fr.alloc ?_ _ | refine Fr.drew ?_ | refine Fr.drewN ?_ _ | refine Fr.thenNo ?_ (by assumption)))⟩
    · refine (begins_no _ _ _ _ _ ok).mono ?_
      rintro e w1 ⟨rfl, hf1⟩
      go_wp2_with fail
      go_quiet (fail)
      clear e2
      go_wp2_with fail
      go_ret
      exact ⟨rfl, by (repeat (first | exact Fr.refl _ _ | refine Fr.setCell ?_ (.inl (by first | (simp; done) | (simp; omega) | omega)) _ | refine Fr.alloc ?_ _ | refine Fr.drew ?_ | refine Fr.drewN ?_ _ | refine Fr.thenNo ?_ (by assumption)))⟩
  · have e2 : decide (k < 0) = false := by simpa using k0
    have e1 : IntKind.i64.wrap 1 = 1 := by decide
    go_enter Try.func66, Try.ntmps66
    go_wp2_with fail
    by_cases ok : cfgOk n s h
    · have ok' := ok
      obtain ⟨h1, h2, h3, h4, h5, h6⟩ := ok'
      have hk' : 2 * n ≤ k := by
        rcases hk with hk | hk | hk
        · exact absurd ok hk
        · omega
        · exact hk
      have e3 : IntKind.i64.wrap (2 + 2 * n - 2) = 2 + 2 * n - 2 := by rw [IntWalk.i64_in _ (by omega)]
      have e4 : decide (2 + 2 * n - 2 ≤ k) = true := by simp; omega
      refine (begins_yes _ _ _ _ _ ok).mono ?_
      rintro e w1 ⟨rfl, hf1⟩
      go_wp2_with fail
      go_quiet (fail)
      clear e1 e2 e3 e4
      go_wp2_with fail
      go_ret
      exact ⟨rfl, by (repeat (first | exact Fr.refl _ _ | refine Fr.setCell ?_ (.inl (by first | (simp; done) | (simp; omega) | omega)) _ | refine Fr.alloc ?_ _ | refine Fr.drew ?_ | refine Fr.drewN ?_ _ | refine Fr.thenNo ?_ (by assumption)))⟩
    · have e3 : IntKind.i64.wrap 0 = 0 := by decide
      have e4 : decide (0 ≤ k) = true := by simp; omega
      refine (begins_no _ _ _ _ _ ok).mono ?_
      rintro e w1 ⟨rfl, hf1⟩
      go_wp2_with fail
      go_quiet (fail)
      clear e1 e2 e3 e4
      go_wp2_with fail
      go_ret
      exact ⟨rfl, by (repeat (first | exact Fr.refl _ _ | refine Fr.setCell ?_ (.inl (by first | (simp; done) | (simp; omega) | omega)) _ | refine Fr.alloc ?_ _ | refine Fr.drew ?_ | refine Fr.drewN ?_ _ | refine Fr.thenNo ?_ (by assumption)))⟩

set_option maxRecDepth 100000 in
theorem at1_in (w : World) (n s h t k : Int) (ok : cfgOk n s h) (k0 : 0 ≤ k) (k1 : k < s) :
    Calls Try.prog 66 #[cfg n s h t, .int .i64 1, .int .i64 k] w fun e w' => e = .returned (.int .i64 (2 + 2 * n + k)) ∧ Fr No w w' := by
  have ok' := ok
  obtain ⟨h1, h2, h3, h4, h5, h6⟩ := ok'
  go_enter Try.func66, Try.ntmps66
  go_wp2_with fail
  refine (begins_yes _ _ _ _ _ ok).mono ?_
  rintro e w1 ⟨rfl, hf1⟩
  go_wp2_with fail
  have e1 : IntKind.i64.wrap 2 = 2 := by decide
  have e2 : decide (k < 0) = false := by simpa using k0
  have e3 : IntKind.i64.wrap (2 + 2 * n + s - (2 + 2 * n)) = s := by rw [IntWalk.i64_in _ (by omega)]; omega
  have e4 : decide (s ≤ k) = false := by simp; omega
  go_quiet (fail)
  clear e1 e2 e3 e4
  go_wp2_with fail
  go_ret
  exact ⟨rfl, by (repeat (first | exact Fr.refl _ _ | refine Fr.setCell ?_ (.inl (by first | (simp; done) | (simp; omega) | omega)) _ | refine Fr.alloc ?_ _ | refine Fr.drew ?_ | refine Fr.drewN ?_ _ | refine Fr.thenNo ?_ (by assumption)))⟩

set_option maxRecDepth 100000 in
theorem at1_out (w : World) (n s h t k : Int) (hk : ¬ cfgOk n s h ∨ k < 0 ∨ s ≤ k) :
    Calls Try.prog 66 #[cfg n s h t, .int .i64 1, .int .i64 k] w fun e w' => e = .returned (.int .i64 (-1)) ∧ Fr No w w' := by
  by_cases k0 : k < 0
  · have e2 : decide (k < 0) = true := by simpa using k0
    go_enter Try.func66, Try.ntmps66
    go_wp2_with fail
    by_cases ok : cfgOk n s h
    · refine (begins_yes _ _ _ _ _ ok).mono ?_
      rintro e w1 ⟨rfl, hf1⟩
      go_wp2_with fail
      go_quiet (fail)
      clear e2
      go_wp2_with fail
      go_ret
      exact ⟨rfl, by (repeat (first | exact Fr.refl _ _ | refine Fr.setCell ?_ (.inl (by first | (simp; done) | (simp; omega) | omega)) _ | refine Fr.alloc ?_ _ | refine Fr.drew ?_ | refine Fr.drewN ?_ _ | refine Fr.thenNo ?_ (by assumption)))⟩
    · refine (begins_no _ _ _ _ _ ok).mono ?_
      rintro e w1 ⟨rfl, hf1⟩
      go_wp2_with fail
      go_quiet (fail)
      clear e2
      go_wp2_with fail
      go_ret
      exact ⟨rfl, by (repeat (first | exact Fr.refl _ _ | refine Fr.setCell ?_ (.inl (by first | (simp; done) | (simp; omega) | omega)) _ | refine Fr.alloc ?_ _ | refine Fr.drew ?_ | refine Fr.drewN ?_ _ | refine Fr.thenNo ?_ (by assumption)))⟩
  · have e2 : decide (k < 0) = false := by simpa using k0
    have e1 : IntKind.i64.wrap 2 = 2 := by decide
    go_enter Try.func66, Try.ntmps66
    go_wp2_with fail
    by_cases ok : cfgOk n s h
    · have ok' := ok
      obtain ⟨h1, h2, h3, h4, h5, h6⟩ := ok'
      have hk' : s ≤ k := by
        rcases hk with hk | hk | hk
        · exact absurd ok hk
        · omega
        · exact hk
      have e3 : IntKind.i64.wrap (2 + 2 * n + s - (2 + 2 * n)) = s := by rw [IntWalk.i64_in _ (by omega)]; omega
      have e4 : decide (s ≤ k) = true := by simp; omega
      refine (begins_yes _ _ _ _ _ ok).mono ?_
      rintro e w1 ⟨rfl, hf1⟩
      go_wp2_with fail
      go_quiet (fail)
      clear e1 e2 e3 e4
      go_wp2_with fail
      go_ret
      exact ⟨rfl, by (repeat (first | exact Fr.refl _ _ | refine Fr.setCell ?_ (.inl (by first | (simp; done) | (simp; omega) | omega)) _ | refine Fr.alloc ?_ _ | refine Fr.drew ?_ | refine Fr.drewN ?_ _ | refine Fr.thenNo ?_ (by assumption)))⟩
    · have e3 : IntKind.i64.wrap 0 = 0 := by decide
      have e4 : decide (0 ≤ k) = true := by simp; omega
      refine (begins_no _ _ _ _ _ ok).mono ?_
      rintro e w1 ⟨rfl, hf1⟩
      go_wp2_with fail
      go_quiet (fail)
      clear e1 e2 e3 e4
      go_wp2_with fail
      go_ret
      exact ⟨rfl, by (repeat (first | exact Fr.refl _ _ | refine Fr.setCell ?_ (.inl (by first | (simp; done) | (simp; omega) | omega)) _ | refine Fr.alloc ?_ _ | refine Fr.drew ?_ | refine Fr.drewN ?_ _ | refine Fr.thenNo ?_ (by assumption)))⟩


theorem Next_in (w : World) (n s h t i : Int) (ok : cfgOk n s h) (i0 : 1 ≤ i) (i1 : i ≤ n) :
    Calls Try.prog 29 #[cfg n s h t, .int .u32 i] w fun e w' => e = .returned (.int .i64 (2 * i)) ∧ Fr No w w' := by
  have ok' := ok
  obtain ⟨h1, h2, h3, h4, h5, h6⟩ := ok'
  go_enter Try.func29, Try.ntmps29
  go_wp2_with fail
  refine (at0_in _ _ _ _ _ _ ok (by omega) (by omega)).mono ?_
  rintro e w1 ⟨rfl, hf1⟩
  go_wp2_with fail
  go_ret
  exact ⟨ret_u64 (by omega), by (repeat (first | exact Fr.refl _ _ | refine Fr.setCell ?_ (.inl (by first | (simp; done) | (simp; omega) | omega)) _ | refine Fr.alloc ?_ _ | refine Fr.drew ?_ | refine Fr.drewN ?_ _ | refine Fr.thenNo ?_ (by assumption)))⟩

theorem Next_out (w : World) (n s h t i : Int) (i0 : 0 ≤ i) (i2 : i < 4294967296) (hk : ¬ cfgOk n s h ∨ i = 0 ∨ n < i) :
    Calls Try.prog 29 #[cfg n s h t, .int .u32 i] w fun e w' => e = .returned (.int .i64 (-1)) ∧ Fr No w w' := by
  go_enter Try.func29, Try.ntmps29
  go_wp2_with fail
  refine (at0_out _ _ _ _ _ _ (by rcases hk with hk | hk | hk; exact Or.inl hk; right; left; omega; right; right; omega)).mono ?_
  rintro e w1 ⟨rfl, hf1⟩
  go_wp2_with fail
  go_ret
  exact ⟨rfl, by (repeat (first | exact Fr.refl _ _ | refine Fr.setCell ?_ (.inl (by first | (simp; done) | (simp; omega) | omega)) _ | refine Fr.alloc ?_ _ | refine Fr.drew ?_ | refine Fr.drewN ?_ _ | refine Fr.thenNo ?_ (by assumption)))⟩

theorem Value_in (w : World) (n s h t i : Int) (ok : cfgOk n s h) (i0 : 1 ≤ i) (i1 : i ≤ n) :
    Calls Try.prog 30 #[cfg n s h t, .int .u32 i] w fun e w' => e = .returned (.int .i64 (2 * i + 1)) ∧ Fr No w w' := by
  have ok' := ok
  obtain ⟨h1, h2, h3, h4, h5, h6⟩ := ok'
  go_enter Try.func30, Try.ntmps30
  go_wp2_with fail
  refine (at0_in _ _ _ _ _ _ ok (by omega) (by omega)).mono ?_
  rintro e w1 ⟨rfl, hf1⟩
  go_wp2_with fail
  go_ret
  exact ⟨ret_u64 (by omega), by (repeat (first | exact Fr.refl _ _ | refine Fr.setCell ?_ (.inl (by first | (simp; done) | (simp; omega) | omega)) _ | refine Fr.alloc ?_ _ | refine Fr.drew ?_ | refine Fr.drewN ?_ _ | refine Fr.thenNo ?_ (by assumption)))⟩

theorem Value_out (w : World) (n s h t i : Int) (i0 : 0 ≤ i) (i2 : i < 4294967296) (hk : ¬ cfgOk n s h ∨ i = 0 ∨ n < i) :
    Calls Try.prog 30 #[cfg n s h t, .int .u32 i] w fun e w' => e = .returned (.int .i64 (-1)) ∧ Fr No w w' := by
  by_cases hz : i = 0
  · subst hz
    go_enter Try.func30, Try.ntmps30
    go_wp2_with fail
    go_ret
    exact ⟨rfl, by (repeat (first | exact Fr.refl _ _ | refine Fr.setCell ?_ (.inl (by first | (simp; done) | (simp; omega) | omega)) _ | refine Fr.alloc ?_ _ | refine Fr.drew ?_ | refine Fr.drewN ?_ _ | refine Fr.thenNo ?_ (by assumption)))⟩
  · have hz' : (i == 0) = false := by simpa using hz
    go_enter Try.func30, Try.ntmps30
    go_wp2_with fail
    refine (at0_out _ _ _ _ _ _ (by rcases hk with hk | hk | hk; exact Or.inl hk; exact absurd hk hz; right; right; omega)).mono ?_
    rintro e w1 ⟨rfl, hf1⟩
    go_wp2_with fail
    go_ret
    exact ⟨rfl, by (repeat (first | exact Fr.refl _ _ | refine Fr.setCell ?_ (.inl (by first | (simp; done) | (simp; omega) | omega)) _ | refine Fr.alloc ?_ _ | refine Fr.drew ?_ | refine Fr.drewN ?_ _ | refine Fr.thenNo ?_ (by assumption)))⟩

theorem Slot_in (w : World) (n s h t k : Int) (ok : cfgOk n s h) (k0 : 0 ≤ k) (k1 : k < s) :
    Calls Try.prog 63 #[cfg n s h t, .int .i64 k] w fun e w' => e = .returned (.int .i64 (2 + 2 * n + k)) ∧ Fr No w w' := by
  go_enter Try.func63, Try.ntmps63
  go_wp2_with fail
  refine (at1_in _ _ _ _ _ _ ok k0 k1).mono ?_
  rintro e w1 ⟨rfl, hf1⟩
  go_wp2_with fail
  go_ret
  exact ⟨rfl, by (repeat (first | exact Fr.refl _ _ | refine Fr.setCell ?_ (.inl (by first | (simp; done) | (simp; omega) | omega)) _ | refine Fr.alloc ?_ _ | refine Fr.drew ?_ | refine Fr.drewN ?_ _ | refine Fr.thenNo ?_ (by assumption)))⟩

theorem Slot_out (w : World) (n s h t k : Int) (hk : ¬ cfgOk n s h ∨ k < 0 ∨ s ≤ k) :
    Calls Try.prog 63 #[cfg n s h t, .int .i64 k] w fun e w' => e = .returned (.int .i64 (-1)) ∧ Fr No w w' := by
  go_enter Try.func63, Try.ntmps63
  go_wp2_with fail
  refine (at1_out _ _ _ _ _ _ hk).mono ?_
  rintro e w1 ⟨rfl, hf1⟩
  go_wp2_with fail
  go_ret
  exact ⟨rfl, by (repeat (first | exact Fr.refl _ _ | refine Fr.setCell ?_ (.inl (by first | (simp; done) | (simp; omega) | omega)) _ | refine Fr.alloc ?_ _ | refine Fr.drew ?_ | refine Fr.drewN ?_ _ | refine Fr.thenNo ?_ (by assumption)))⟩

theorem cx3 (a b c d : Value) (w : World) : (Instr.index 111 (.agg #[a, b, c, d]) (.int .i64 3)).run Try.prog w = .ok d w := by kernel_rfl

theorem Cells_yes (w : World) (n s h t : Int) (ok : cfgOk n s h) :
    Calls Try.prog 26 #[cfg n s h t] w fun e w' => e = .returned (.int .i64 (2 + 2 * n + s + h)) ∧ Fr No w w' := by
  have hx := cx3
  go_enter Try.func26, Try.ntmps26
  go_wp2_with fail
  refine (begins_yes _ _ _ _ _ ok).mono ?_
  rintro e w1 ⟨rfl, hf1⟩
  go_wp2_with fail
  go_ret
  exact ⟨rfl, by (repeat (first | exact Fr.refl _ _ | refine Fr.setCell ?_ (.inl (by first | (simp; done) | (simp; omega) | omega)) _ | refine Fr.alloc ?_ _ | refine Fr.drew ?_ | refine Fr.drewN ?_ _ | refine Fr.thenNo ?_ (by assumption)))⟩

theorem Cells_no (w : World) (n s h t : Int) (ok : ¬ cfgOk n s h) :
    Calls Try.prog 26 #[cfg n s h t] w fun e w' => e = .returned (.int .i64 0) ∧ Fr No w w' := by
  have hx := cx3
  go_enter Try.func26, Try.ntmps26
  go_wp2_with fail
  refine (begins_no _ _ _ _ _ ok).mono ?_
  rintro e w1 ⟨rfl, hf1⟩
  go_wp2_with fail
  go_ret
  exact ⟨rfl, by (repeat (first | exact Fr.refl _ _ | refine Fr.setCell ?_ (.inl (by first | (simp; done) | (simp; omega) | omega)) _ | refine Fr.alloc ?_ _ | refine Fr.drew ?_ | refine Fr.drewN ?_ _ | refine Fr.thenNo ?_ (by assumption)))⟩

end Go.Proofs.Ytfglpigoljclbaa.H
