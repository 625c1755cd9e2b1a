/- Contracts of the package pack: what each of its functions answers. -/
import Derived.Test.YtfglpigoljclbaaHBase
import Derived.Test.YtfglpigoljclbaaProg
set_option linter.unusedVariables false
namespace Go.Proofs.Ytfglpigoljclbaa.H
open Go.RowKit

theorem lower_of (w : World) (v : Int) (h0 : 0 ≤ v) (h1 : v < 18446744073709551616) :
    Calls Try.prog 127 #[.agg #[], .int .u64 v] w fun e w' => e = .returned (.int .u32 (v % 4294967296)) ∧ Fr No w w' := by
  go_enter Try.func127, Try.ntmps127
  go_wp2
  go_ret
  exact ⟨rfl, (Fr.refl _ _).alloc _⟩

theorem upper_of (w : World) (v : Int) (h0 : 0 ≤ v) (h1 : v < 18446744073709551616) :
    Calls Try.prog 126 #[.agg #[], .int .u64 v] w fun e w' => e = .returned (.int .u32 (v / 4294967296)) ∧ Fr No w w' := by
  go_enter Try.func126, Try.ntmps126
  go_wp2
  go_ret
  exact ⟨rfl, (Fr.refl _ _).alloc _⟩

theorem ta_lower (w : World) : (Instr.typeAssert (.iface 148 (.agg #[])) 20 153 true).run Try.prog w = .ok (.tuple #[.iface 148 (.agg #[]), .bool true]) w := by kernel_rfl

theorem m_lower (w : World) : (method 286 148 (.agg #[]) "hatstand/pack.of").run Try.prog w = .ok (127, .agg #[]) w := by kernel_rfl

set_option maxRecDepth 100000 in
theorem take_lower (w : World) (v : Int) (h0 : 0 ≤ v) (h1 : v < 18446744073709551616) :
    Calls Try.prog 81 #[.int .u64 v, .iface 148 (.agg #[])] w fun e w' => e = .returned (.int .u32 (v % 4294967296)) ∧ Fr No w w' := by
  have hta := ta_lower
  have hm := m_lower
  go_enter Try.func81, Try.ntmps81
  go_wp2_with (go_at_call 127; refine (lower_of _ _ h0 h1).mono ?_; rintro e w1 ⟨rfl, hf1⟩)
  go_ret
  exact ⟨rfl, hf1⟩

theorem ta_upper (w : World) : (Instr.typeAssert (.iface 135 (.agg #[])) 20 153 true).run Try.prog w = .ok (.tuple #[.iface 135 (.agg #[]), .bool true]) w := by kernel_rfl
theorem m_upper (w : World) : (method 286 135 (.agg #[]) "hatstand/pack.of").run Try.prog w = .ok (126, .agg #[]) w := by kernel_rfl

set_option maxRecDepth 100000 in
theorem take_upper (w : World) (v : Int) (h0 : 0 ≤ v) (h1 : v < 18446744073709551616) :
    Calls Try.prog 81 #[.int .u64 v, .iface 135 (.agg #[])] w fun e w' => e = .returned (.int .u32 (v / 4294967296)) ∧ Fr No w w' := by
  have hta := ta_upper
  have hm := m_upper
  go_enter Try.func81, Try.ntmps81
  go_wp2_with (go_at_call 126; refine (upper_of _ _ h0 h1).mono ?_; rintro e w1 ⟨rfl, hf1⟩)
  go_ret
  exact ⟨rfl, hf1⟩

/-- The index of a word, its tag. -/
theorem Index_ (w : World) (v : Int) (h0 : 0 ≤ v) (h1 : v < 18446744073709551616) :
    Calls Try.prog 67 #[.int .u64 v] w fun e w' => e = .returned (.int .u32 (v % 4294967296)) ∧ Fr No w w' := by
  go_enter Try.func67, Try.ntmps67
  go_wp2_with (go_at_call 81; refine (take_lower _ _ h0 h1).mono ?_; rintro e w1 ⟨rfl, hf1⟩)
  go_ret
  exact ⟨rfl, hf1⟩

theorem Tag_ (w : World) (v : Int) (h0 : 0 ≤ v) (h1 : v < 18446744073709551616) :
    Calls Try.prog 50 #[.int .u64 v] w fun e w' => e = .returned (.int .u32 (v / 4294967296)) ∧ Fr No w w' := by
  go_enter Try.func50, Try.ntmps50
  go_wp2_with (go_at_call 81; refine (take_upper _ _ h0 h1).mono ?_; rintro e w1 ⟨rfl, hf1⟩)
  go_ret
  exact ⟨rfl, hf1⟩

theorem or_word (i t : Int) (h0 : 0 ≤ i) (h1 : i < 4294967296) (h2 : 0 ≤ t) (h3 : t < 4294967296) : bits BinOp.or IntKind.u64 i (t * 4294967296) = i + t * 4294967296 := by
  rw [u64_or _ _ h0 (by omega) (by omega) (by omega), nat_join32' _ _ (by omega) (by omega)]
  omega

theorem ret_u64 {k : IntKind} {a b : Int} (h : a = b) : Ending.returned (.int k a) = .returned (.int k b) := by rw [h]

theorem Word_ (w : World) (i t : Int) (h0 : 0 ≤ i) (h1 : i < 4294967296) (h2 : 0 ≤ t) (h3 : t < 4294967296) :
    Calls Try.prog 28 #[.int .u32 i, .int .u32 t] w fun e w' => e = .returned (.int .u64 (i + t * 4294967296)) ∧ Fr No w w' := by
  go_enter Try.func28, Try.ntmps28
  go_wp2
  go_ret
  exact ⟨ret_u64 (or_word i t h0 h1 h2 h3), Fr.refl _ _⟩

/-- The word behind v with another index. -/
def nextWord (v i : Int) : Int := i + ((v / 4294967296 + 1) % 4294967296) * 4294967296

theorem Next_ (w : World) (v i : Int) (h0 : 0 ≤ v) (h1 : v < 18446744073709551616) (h2 : 0 ≤ i) (h3 : i < 4294967296) :
    Calls Try.prog 109 #[.int .u64 v, .int .u32 i] w fun e w' => e = .returned (.int .u64 (nextWord v i)) ∧ Fr No w w' := by
  go_enter Try.func109, Try.ntmps109
  go_wp2_with (go_at_call 50; refine (Tag_ _ _ h0 h1).mono ?_; rintro e w1 ⟨rfl, hf1⟩)
  go_wp2_with (go_at_call 28; refine (Word_ _ _ _ h2 h3 (by omega) (by omega)).mono ?_; rintro e w2 ⟨rfl, hf2⟩)
  go_ret
  exact ⟨rfl, hf1.then hf2⟩
end Go.Proofs.Ytfglpigoljclbaa.H
