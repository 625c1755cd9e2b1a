/- The laws' own 'pick' and 'config'. -/
import Derived.Test.YtfglpigoljclbaaHLay
set_option linter.unusedVariables false
namespace Go.Proofs.Ytfglpigoljclbaa.H
open Go.RowKit

def I64 (x : Int) : Prop := -9223372036854775808 ≤ x ∧ x ≤ 9223372036854775807
theorem i64_of {x : Int} (h : (Lit.int .i64 x).wf = true) : I64 x := by
  have hmin : IntKind.i64.min = -9223372036854775808 := rfl
  have hmax : IntKind.i64.max = 9223372036854775807 := rfl
  simp only [Lit.wf, Bool.and_eq_true, decide_eq_true_eq] at h
  unfold I64
  omega
theorem u32_of {x : Int} (h : (Lit.int .u32 x).wf = true) : 0 ≤ x ∧ x < 4294967296 := by
  have hmin : IntKind.u32.min = 0 := rfl
  have hmax : IntKind.u32.max = 4294967295 := rfl
  simp only [Lit.wf, Bool.and_eq_true, decide_eq_true_eq] at h
  omega
theorem u64_of {x : Int} (h : (Lit.int .u64 x).wf = true) : 0 ≤ x ∧ x < 18446744073709551616 := by
  have hmin : IntKind.u64.min = 0 := rfl
  have hmax : IntKind.u64.max = 18446744073709551615 := rfl
  simp only [Lit.wf, Bool.and_eq_true, decide_eq_true_eq] at h
  omega

/-- Which of n things the raw number c speaks of. -/
def pickV (c n : Int) : Int := (if c < 0 then -(c + 1) else c) % n

theorem pickV_bd (c n : Int) (hn : 0 < n) : 0 ≤ pickV c n ∧ pickV c n < n := ⟨Int.emod_nonneg _ (by omega), Int.emod_lt_of_pos _ hn⟩


theorem pick6_ (w : World) (c n : Int) (h0 : -9223372036854775808 ≤ c) (h1 : c ≤ 9223372036854775807) (hn : 0 < n) (hn2 : n ≤ 1000000) :
    Calls Try.prog 27 #[.int .i64 c, .int .i64 n] w fun e w' => e = .returned (.int .i64 (pickV c n)) ∧ w = w' := by
  have hnz : ¬ n = 0 := by omega
  by_cases hc : c < 0
  · have hv : pickV c n = (-(c + 1)) % n := by rw [pickV, if_pos hc]
    rw [hv]
    have hb1 : 0 ≤ -(c + 1) := by omega
    go_enter Try.func27, Try.ntmps27
    go_wp2_with fail
    go_ret
    exact ⟨ret_u64 (by show -((c + 1).tmod n) = _; rw [← Int.neg_tmod, Int.tmod_eq_emod_of_nonneg hb1]), rfl⟩
  · have hv : pickV c n = c % n := by rw [pickV, if_neg hc]
    rw [hv]
    have hb1 : 0 ≤ c := by omega
    go_enter Try.func27, Try.ntmps27
    go_wp2_with fail
    go_ret
    exact ⟨rfl, rfl⟩

theorem pick7_ (w : World) (c n : Int) (h0 : -9223372036854775808 ≤ c) (h1 : c ≤ 9223372036854775807) (hn : 0 < n) (hn2 : n ≤ 1000000) :
    Calls Try.prog 38 #[.int .i64 c, .int .i64 n] w fun e w' => e = .returned (.int .i64 (pickV c n)) ∧ w = w' := by
  have hnz : ¬ n = 0 := by omega
  by_cases hc : c < 0
  · have hv : pickV c n = (-(c + 1)) % n := by rw [pickV, if_pos hc]
    rw [hv]
    have hb1 : 0 ≤ -(c + 1) := by omega
    go_enter Try.func38, Try.ntmps38
    go_wp2_with fail
    go_ret
    exact ⟨ret_u64 (by show -((c + 1).tmod n) = _; rw [← Int.neg_tmod, Int.tmod_eq_emod_of_nonneg hb1]), rfl⟩
  · have hv : pickV c n = c % n := by rw [pickV, if_neg hc]
    rw [hv]
    have hb1 : 0 ≤ c := by omega
    go_enter Try.func38, Try.ntmps38
    go_wp2_with fail
    go_ret
    exact ⟨rfl, rfl⟩

theorem pick8_ (w : World) (c n : Int) (h0 : -9223372036854775808 ≤ c) (h1 : c ≤ 9223372036854775807) (hn : 0 < n) (hn2 : n ≤ 1000000) :
    Calls Try.prog 53 #[.int .i64 c, .int .i64 n] w fun e w' => e = .returned (.int .i64 (pickV c n)) ∧ w = w' := by
  have hnz : ¬ n = 0 := by omega
  by_cases hc : c < 0
  · have hv : pickV c n = (-(c + 1)) % n := by rw [pickV, if_pos hc]
    rw [hv]
    have hb1 : 0 ≤ -(c + 1) := by omega
    go_enter Try.func53, Try.ntmps53
    go_wp2_with fail
    go_ret
    exact ⟨ret_u64 (by show -((c + 1).tmod n) = _; rw [← Int.neg_tmod, Int.tmod_eq_emod_of_nonneg hb1]), rfl⟩
  · have hv : pickV c n = c % n := by rw [pickV, if_neg hc]
    rw [hv]
    have hb1 : 0 ≤ c := by omega
    go_enter Try.func53, Try.ntmps53
    go_wp2_with fail
    go_ret
    exact ⟨rfl, rfl⟩

theorem pick21_ (w : World) (c n : Int) (h0 : -9223372036854775808 ≤ c) (h1 : c ≤ 9223372036854775807) (hn : 0 < n) (hn2 : n ≤ 1000000) :
    Calls Try.prog 17 #[.int .i64 c, .int .i64 n] w fun e w' => e = .returned (.int .i64 (pickV c n)) ∧ w = w' := by
  have hnz : ¬ n = 0 := by omega
  by_cases hc : c < 0
  · have hv : pickV c n = (-(c + 1)) % n := by rw [pickV, if_pos hc]
    rw [hv]
    have hb1 : 0 ≤ -(c + 1) := by omega
    go_enter Try.func17, Try.ntmps17
    go_wp2_with fail
    go_ret
    exact ⟨ret_u64 (by show -((c + 1).tmod n) = _; rw [← Int.neg_tmod, Int.tmod_eq_emod_of_nonneg hb1]), rfl⟩
  · have hv : pickV c n = c % n := by rw [pickV, if_neg hc]
    rw [hv]
    have hb1 : 0 ≤ c := by omega
    go_enter Try.func17, Try.ntmps17
    go_wp2_with fail
    go_ret
    exact ⟨rfl, rfl⟩



theorem config6_ (w : World) (a b c t : Int) (a0 : -9223372036854775808 ≤ a) (a1 : a ≤ 9223372036854775807) (b0 : -9223372036854775808 ≤ b) (b1 : b ≤ 9223372036854775807) (c0 : -9223372036854775808 ≤ c) (c1 : c ≤ 9223372036854775807) :
    Calls Try.prog 24 #[.int .i64 a, .int .i64 b, .int .i64 c, .int .u32 t] w fun e w' => e = .returned (cfg (1 + pickV a 64) (pickV b 17) (pickV c 65) t) ∧ Fr No w w' := by
  obtain ⟨A, hA⟩ : ∃ A, A = pickV a 64 := ⟨_, rfl⟩
  have hA2 := pickV_bd a 64 (by omega)
  rw [← hA] at hA2 ⊢
  have HA := Lib.hid hA
  clear hA
  go_enter Try.func24, Try.ntmps24
  go_wp2_with fail
  refine (pick6_ _ _ _ a0 a1 (by omega) (by omega)).mono ?_
  rintro e w1 ⟨rfl, rfl⟩
  rw [← HA.out]
  go_wp2_with fail
  refine (pick6_ _ _ _ b0 b1 (by omega) (by omega)).mono ?_
  rintro e w1 ⟨rfl, rfl⟩
  go_wp2_with fail
  refine (pick6_ _ _ _ c0 c1 (by omega) (by omega)).mono ?_
  rintro e w1 ⟨rfl, rfl⟩
  go_wp2_with fail
  refine bodyPost_ret (v := cfg (1 + A) (pickV b 17) (pickV c 65) t) (by simp [results, Try.results24, go_sem]) rfl ⟨rfl, ?_⟩
  (repeat (first | exact Fr.refl _ _ | refine Fr.setCell ?_ (.inl (by first | (simp; done) | (simp; omega) | omega)) _ | refine Fr.alloc ?_ _ | refine Fr.drew ?_ | refine Fr.drewN ?_ _ | refine Fr.thenNo ?_ (by assumption)))

theorem config7_ (w : World) (a b c t : Int) (a0 : -9223372036854775808 ≤ a) (a1 : a ≤ 9223372036854775807) (b0 : -9223372036854775808 ≤ b) (b1 : b ≤ 9223372036854775807) (c0 : -9223372036854775808 ≤ c) (c1 : c ≤ 9223372036854775807) :
    Calls Try.prog 44 #[.int .i64 a, .int .i64 b, .int .i64 c, .int .u32 t] w fun e w' => e = .returned (cfg (1 + pickV a 64) (pickV b 17) (pickV c 65) t) ∧ Fr No w w' := by
  obtain ⟨A, hA⟩ : ∃ A, A = pickV a 64 := ⟨_, rfl⟩
  have hA2 := pickV_bd a 64 (by omega)
  rw [← hA] at hA2 ⊢
  have HA := Lib.hid hA
  clear hA
  go_enter Try.func44, Try.ntmps44
  go_wp2_with fail
  refine (pick7_ _ _ _ a0 a1 (by omega) (by omega)).mono ?_
  rintro e w1 ⟨rfl, rfl⟩
  rw [← HA.out]
  go_wp2_with fail
  refine (pick7_ _ _ _ b0 b1 (by omega) (by omega)).mono ?_
  rintro e w1 ⟨rfl, rfl⟩
  go_wp2_with fail
  refine (pick7_ _ _ _ c0 c1 (by omega) (by omega)).mono ?_
  rintro e w1 ⟨rfl, rfl⟩
  go_wp2_with fail
  refine bodyPost_ret (v := cfg (1 + A) (pickV b 17) (pickV c 65) t) (by simp [results, Try.results44, go_sem]) rfl ⟨rfl, ?_⟩
  (repeat (first | exact Fr.refl _ _ | refine Fr.setCell ?_ (.inl (by first | (simp; done) | (simp; omega) | omega)) _ | refine Fr.alloc ?_ _ | refine Fr.drew ?_ | refine Fr.drewN ?_ _ | refine Fr.thenNo ?_ (by assumption)))

theorem config8_ (w : World) (a b c t : Int) (a0 : -9223372036854775808 ≤ a) (a1 : a ≤ 9223372036854775807) (b0 : -9223372036854775808 ≤ b) (b1 : b ≤ 9223372036854775807) (c0 : -9223372036854775808 ≤ c) (c1 : c ≤ 9223372036854775807) :
    Calls Try.prog 56 #[.int .i64 a, .int .i64 b, .int .i64 c, .int .u32 t] w fun e w' => e = .returned (cfg (1 + pickV a 64) (pickV b 17) (pickV c 65) t) ∧ Fr No w w' := by
  obtain ⟨A, hA⟩ : ∃ A, A = pickV a 64 := ⟨_, rfl⟩
  have hA2 := pickV_bd a 64 (by omega)
  rw [← hA] at hA2 ⊢
  have HA := Lib.hid hA
  clear hA
  go_enter Try.func56, Try.ntmps56
  go_wp2_with fail
  refine (pick8_ _ _ _ a0 a1 (by omega) (by omega)).mono ?_
  rintro e w1 ⟨rfl, rfl⟩
  rw [← HA.out]
  go_wp2_with fail
  refine (pick8_ _ _ _ b0 b1 (by omega) (by omega)).mono ?_
  rintro e w1 ⟨rfl, rfl⟩
  go_wp2_with fail
  refine (pick8_ _ _ _ c0 c1 (by omega) (by omega)).mono ?_
  rintro e w1 ⟨rfl, rfl⟩
  go_wp2_with fail
  refine bodyPost_ret (v := cfg (1 + A) (pickV b 17) (pickV c 65) t) (by simp [results, Try.results56, go_sem]) rfl ⟨rfl, ?_⟩
  (repeat (first | exact Fr.refl _ _ | refine Fr.setCell ?_ (.inl (by first | (simp; done) | (simp; omega) | omega)) _ | refine Fr.alloc ?_ _ | refine Fr.drew ?_ | refine Fr.drewN ?_ _ | refine Fr.thenNo ?_ (by assumption)))

theorem config_ok (a b c : Int) : cfgOk (1 + pickV a 64) (pickV b 17) (pickV c 65) := by
  have := pickV_bd a 64 (by omega)
  have := pickV_bd b 17 (by omega)
  have := pickV_bd c 65 (by omega)
  unfold cfgOk
  omega
end Go.Proofs.Ytfglpigoljclbaa.H
