/- hatstandref1 and hatstandref6's Next: the document's words and places. -/
import Derived.Test.YtfglpigoljclbaaHGo
import Derived.Deep.RegionHeld3
set_option linter.unusedVariables false
set_option linter.unusedSimpArgs false
namespace Go.Proofs.Ytfglpigoljclbaa.H
open Go.RowKit
attribute [local go_sem ↓] Go.wp_at_zero Go.wp_at_succ

theorem ret_i64' {a b : Int} (h : a = b) : Ending.returned (.int .i64 a) = Ending.returned (.int .i64 b) := by rw [h]

theorem RIndex_ (w : World) (v : Int) (h0 : 0 ≤ v) (h1 : v < 18446744073709551616) :
    Calls Try.prog 74 #[.int .u64 v] w fun e w' => e = .returned (.int .u32 (v % 4294967296)) ∧ w = w' := by
  have e1 : IntKind.u64.wrap (v.tmod 4294967296) = v % 4294967296 := by rw [Int.tmod_eq_emod_of_nonneg h0]; simp [IntKind.wrap, IntKind.bits, IntKind.signed]; omega
  have e2 : IntKind.u32.wrap (v % 4294967296) = v % 4294967296 := IntWalk.u32_in _ (by omega)
  go_enter Try.func74, Try.ntmps74
  go_wp2_with fail
  go_ret
  exact ⟨by simp_all, rfl⟩

theorem RTag_ (w : World) (v : Int) (h0 : 0 ≤ v) (h1 : v < 18446744073709551616) :
    Calls Try.prog 93 #[.int .u64 v] w fun e w' => e = .returned (.int .u32 (v / 4294967296)) ∧ w = w' := by
  have e1 : IntKind.u64.wrap (v.tdiv 4294967296) = v / 4294967296 := by rw [Int.tdiv_eq_ediv_of_nonneg h0]; simp [IntKind.wrap, IntKind.bits, IntKind.signed]; omega
  have e2 : IntKind.u32.wrap (v / 4294967296) = v / 4294967296 := IntWalk.u32_in _ (by omega)
  go_enter Try.func93, Try.ntmps93
  go_wp2_with fail
  go_ret
  exact ⟨by simp_all, rfl⟩

theorem RWord_ (w : World) (i t : Int) (h0 : 0 ≤ i) (h1 : i < 4294967296) (h2 : 0 ≤ t) (h3 : t < 4294967296) :
    Calls Try.prog 94 #[.int .u32 i, .int .u32 t] w fun e w' => e = .returned (.int .u64 (i + t * 4294967296)) ∧ w = w' := by
  go_enter Try.func94, Try.ntmps94
  go_wp2_with fail
  go_ret
  exact ⟨ret_u64 (by first | omega | (simp [IntKind.wrap, IntKind.bits, IntKind.signed]; omega)), rfl⟩

theorem RNext1_ (w : World) (v i : Int) (h0 : 0 ≤ v) (h1 : v < 18446744073709551616) (h2 : 0 ≤ i) (h3 : i < 4294967296) :
    Calls Try.prog 77 #[.int .u64 v, .int .u32 i] w fun e w' => e = .returned (.int .u64 (nextWord v i)) ∧ w = w' := by
  have e0 : IntKind.u64.wrap (v / 4294967296) = v / 4294967296 := by simp [IntKind.wrap, IntKind.bits, IntKind.signed]; omega
  have e1 : IntKind.u64.wrap (v / 4294967296 + 1) = v / 4294967296 + 1 := by simp [IntKind.wrap, IntKind.bits, IntKind.signed]; omega
  have e2 : IntKind.u64.wrap ((v / 4294967296 + 1).tmod 4294967296) = (v / 4294967296 + 1) % 4294967296 := by rw [Int.tmod_eq_emod_of_nonneg (by omega)]; simp [IntKind.wrap, IntKind.bits, IntKind.signed]; omega
  have e3 : IntKind.u32.wrap ((v / 4294967296 + 1) % 4294967296) = (v / 4294967296 + 1) % 4294967296 := IntWalk.u32_in _ (by omega)
  go_enter Try.func77, Try.ntmps77
  go_wp2_with fail
  refine (RTag_ _ _ h0 h1).mono ?_
  rintro e w1 ⟨rfl, rfl⟩
  go_wp2_with fail
  refine (RWord_ _ _ _ h2 h3 (by omega) (by omega)).mono ?_
  rintro e w1 ⟨rfl, rfl⟩
  go_wp2_with fail
  go_ret
  exact ⟨rfl, rfl⟩

theorem RCheck_yes (w : World) (n s h t : Int) (ok : cfgOk n s h) :
    Calls Try.prog 92 #[cfg n s h t] w fun e w' => e = .returned (.int .i64 0) ∧ Fr No w w' := by
  obtain ⟨h1, h2, h3, h4, h5, h6⟩ := ok
  go_enter Try.func92, Try.ntmps92
  go_wp2
  go_ret
  exact ⟨rfl, (Fr.refl _ _).alloc _⟩

theorem RCheck_no (w : World) (n s h t : Int) (ok : ¬ cfgOk n s h) :
    Calls Try.prog 92 #[cfg n s h t] w fun e w' => e = .returned (.int .i64 1) ∧ Fr No w w' := by
  unfold cfgOk at ok
  go_enter Try.func92, Try.ntmps92
  go_wp2
  all_goals
    go_ret
    exact ⟨rfl, (Fr.refl _ _).alloc _⟩

theorem RNext6_ (w : World) (n s h t i : Int) (i0 : 0 ≤ i) (i2 : i < 4294967296) :
    Calls Try.prog 73 #[cfg n s h t, .int .u32 i] w fun e w' => e = .returned (.int .i64 (nextAt n s h i)) ∧ Fr No w w' := by
  obtain ⟨r, hr⟩ : ∃ r, r = nextAt n s h i := ⟨_, rfl⟩
  rw [← hr]
  have HR := Lib.hid hr
  clear hr
  by_cases ok : cfgOk n s h
  · have ok' := ok
    obtain ⟨h1, h2, h3, h4, h5, h6⟩ := ok'
    have B0 := blk_at w (cs := #[.int .i64 n, .int .i64 s, .int .i64 h, .int .u32 t]) (t := 96) rfl
    have e0 : IntKind.u32.wrap n = n := IntWalk.u32_in _ (by omega)
    go_enter Try.func73, Try.ntmps73
    go_wp2_with fail
    refine (RCheck_yes _ _ _ _ _ ok).mono ?_
    rintro e w1 ⟨rfl, hf1⟩
    have B1 := hf1.keepNo B0
    have C1 := B1.cells
    by_cases hi : 1 ≤ i
    · by_cases hin : i ≤ n
      · go_wp2_with fail
        go_ret
        exact ⟨by rw [HR.out, nextAt, if_pos ⟨ok, hi, hin⟩]; exact ret_i64' (by omega), by (repeat (first | exact Fr.refl _ _ | refine Fr.setCell ?_ (.inl (by first | (simp; done) | (simp; omega) | omega)) _ | refine Fr.alloc ?_ _ | refine Fr.drew ?_ | refine Fr.drewN ?_ _ | refine Fr.thenNo ?_ (by assumption)))⟩
      · have hin' : n < i := by omega
        go_wp2_with fail
        go_ret
        exact ⟨by rw [HR.out, nextAt, if_neg (fun e => by have := e.2.2; omega)]; rfl, by (repeat (first | exact Fr.refl _ _ | refine Fr.setCell ?_ (.inl (by first | (simp; done) | (simp; omega) | omega)) _ | refine Fr.alloc ?_ _ | refine Fr.drew ?_ | refine Fr.drewN ?_ _ | refine Fr.thenNo ?_ (by assumption)))⟩
    · have hi' : i < 1 := by omega
      go_wp2_with fail
      go_ret
      exact ⟨by rw [HR.out, nextAt, if_neg (fun e => by have := e.2.1; omega)]; rfl, by (repeat (first | exact Fr.refl _ _ | refine Fr.setCell ?_ (.inl (by first | (simp; done) | (simp; omega) | omega)) _ | refine Fr.alloc ?_ _ | refine Fr.drew ?_ | refine Fr.drewN ?_ _ | refine Fr.thenNo ?_ (by assumption)))⟩
  · go_enter Try.func73, Try.ntmps73
    go_wp2_with fail
    refine (RCheck_no _ _ _ _ _ ok).mono ?_
    rintro e w1 ⟨rfl, hf1⟩
    go_wp2_with fail
    go_ret
    exact ⟨by rw [HR.out, nextAt, if_neg (fun e => ok e.1)]; rfl, by (repeat (first | exact Fr.refl _ _ | refine Fr.setCell ?_ (.inl (by first | (simp; done) | (simp; omega) | omega)) _ | refine Fr.alloc ?_ _ | refine Fr.drew ?_ | refine Fr.drewN ?_ _ | refine Fr.thenNo ?_ (by assumption)))⟩
end Go.Proofs.Ytfglpigoljclbaa.H
