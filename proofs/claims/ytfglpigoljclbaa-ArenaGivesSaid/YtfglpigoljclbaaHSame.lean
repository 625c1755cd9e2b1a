/- hatstandref6.Same and hatstandref2.SameWords: of two slices that read the same they answer true. -/
import Derived.Test.YtfglpigoljclbaaHSl
import Derived.Test.YtfglpigoljclbaaProg
set_option linter.unusedVariables false
namespace Go.Proofs.Ytfglpigoljclbaa.H
open Go.RowKit

/-- What a slice that is not empty gives the walk. -/
theorem Rd.at {w : World} {S : Nat → Prop} {v : Value} {k : IntKind} {xs : List Int} (h : Rd w S v (us k xs)) (hp : 0 < xs.length) :
    ∃ g o c, v = .slice (some ⟨g, o, none⟩) xs.length c ∧ xs.length ≤ c ∧ S g ∧ g < w.heap.size ∧ ∀ j, j < xs.length → w.cell? ⟨g, o + j, none⟩ = some (.int k (xs.getD j 0)) := by
  obtain ⟨A, c, rfl, hl, _, hc⟩ := h
  rw [us_len] at hl hc ⊢
  obtain ⟨g, o, rfl, hS, hc⟩ := hc hp
  have hj : ∀ j, j < xs.length → w.cell? ⟨g, o + j, none⟩ = some (.int k (xs.getD j 0)) := fun j hj => by rw [hc j hj, us_get _ _ _ hj]
  exact ⟨g, o, c, rfl, hl, hS, World.block_lt_of_cell? w _ (hj 0 hp), hj⟩

theorem Rd.drop {w : World} {S : Nat → Prop} {g o n c : Nat} {xs : List Value} (h : Rd w S (.slice (some ⟨g, o, none⟩) n c) xs) (K : Nat) (hK : K < n) :
    Rd w S (.slice (some ⟨g, o + K, none⟩) (n - K) (c - K)) (xs.drop K) := by
  obtain ⟨A, c', hv, hl, hm, hc⟩ := h
  simp only [Value.slice.injEq] at hv
  obtain ⟨rfl, rfl, rfl⟩ := hv
  obtain ⟨g', o', he, hS, hc⟩ := hc (by omega)
  cases he
  refine ⟨_, _, by rw [List.length_drop], by rw [List.length_drop]; omega, by omega, fun _ => ⟨g, o + K, rfl, hS, fun j hj => ?_⟩⟩
  rw [List.length_drop] at hj
  have := hc (K + j) (by omega)
  rw [List.getElem?_drop, ← this, Nat.add_assoc]

theorem us_drop (k : IntKind) (xs : List Int) (K : Nat) : (us k xs).drop K = us k (xs.drop K) := by simp [us, List.map_drop]

theorem Rd.slice {w : World} {S : Nat → Prop} {v : Value} {k : IntKind} {xs : List Int} (h : Rd w S v (us k xs)) : ∃ A c, v = .slice A xs.length c ∧ xs.length ≤ c ∧ c ≤ maxLen := by
  obtain ⟨A, c, rfl, hl, hm, hc⟩ := h
  rw [us_len] at hl ⊢
  exact ⟨A, c, rfl, hl, hm⟩


set_option maxRecDepth 100000 in
set_option maxHeartbeats 1000000 in
theorem Same32 (w : World) (S T : Nat → Prop) (a b : Value) (xs : List Int) (ha : Rd w S a (us .u32 xs)) (hb : Rd w T b (us .u32 xs)) :
    Calls Try.prog 33 #[a, b] w fun e w' => e = .returned (.bool true) ∧ Fr No w w' := by
  have ha0 := Lib.hid ha
  have hb0 := Lib.hid hb
  obtain ⟨A, c, rfl, hac, hcm⟩ := ha.slice
  obtain ⟨B, d, rfl, hbd, hdm⟩ := hb.slice
  unfold maxLen at hcm
  have hx : xs.length ≤ 9223372036854775807 := by omega
  clear ha hb
  go_enter Try.func33, Try.ntmps33
  go_wp2_with fail
  go_loopw [5] (fun i wr => ∃ j : Nat, j ≤ xs.length ∧ i = .int .i64 j ∧ ∃ q, wr = w.drewN q) (fun i _ => xs.length - (intOf i).toNat)
  case atStart => exact ⟨0, by omega, rfl, 0, rfl⟩
  case round =>
    obtain ⟨j, hj, rfl, q, rfl⟩ := hrel
    by_cases hlt : j < xs.length
    · obtain ⟨g, o, c', hv, _, _, _, hc⟩ := ha0.out.at (by omega)
      cases hv
      obtain ⟨g2, o2, c2, hv2, _, _, _, hc2⟩ := hb0.out.at (by omega)
      cases hv2
      have hcj := hc j hlt
      have hcj2 := hc2 j hlt
      obtain ⟨y, hy⟩ : ∃ y, y = xs.getD j 0 := ⟨_, rfl⟩
      rw [← hy] at hcj hcj2
      have hi1 : (j : Int) < xs.length := by omega
      have hi0 : (0 : Int) ≤ (j : Int) := by omega
      clear hc hc2 hy
      go_wp2_with fail
      go_quiet (fail)
      go_wp2_with fail
      go_roundw
      case rel => exact ⟨j + 1, by omega, by go_num, _, rfl⟩
      case measure => simp [intOf]; omega
    · go_wp2_with fail
      go_ret
      exact ⟨rfl, by (repeat (first | exact Fr.refl _ _ | refine Fr.setCell ?_ (.inl (by first | (simp; done) | (simp; omega) | omega)) _ | refine Fr.alloc ?_ _ | refine Fr.drew ?_ | refine Fr.drewN ?_ _ | refine Fr.thenNo ?_ (by assumption)))⟩

set_option maxRecDepth 100000 in
set_option maxHeartbeats 1000000 in
theorem Same64 (w : World) (S T : Nat → Prop) (a b : Value) (xs : List Int) (ha : Rd w S a (us .u64 xs)) (hb : Rd w T b (us .u64 xs)) :
    Calls Try.prog 42 #[a, b] w fun e w' => e = .returned (.bool true) ∧ Fr No w w' := by
  have ha0 := Lib.hid ha
  have hb0 := Lib.hid hb
  obtain ⟨A, c, rfl, hac, hcm⟩ := ha.slice
  obtain ⟨B, d, rfl, hbd, hdm⟩ := hb.slice
  unfold maxLen at hcm
  have hx : xs.length ≤ 9223372036854775807 := by omega
  clear ha hb
  go_enter Try.func42, Try.ntmps42
  go_wp2_with fail
  go_loopw [5] (fun i wr => ∃ j : Nat, j ≤ xs.length ∧ i = .int .i64 j ∧ ∃ q, wr = w.drewN q) (fun i _ => xs.length - (intOf i).toNat)
  case atStart => exact ⟨0, by omega, rfl, 0, rfl⟩
  case round =>
    obtain ⟨j, hj, rfl, q, rfl⟩ := hrel
    by_cases hlt : j < xs.length
    · obtain ⟨g, o, c', hv, _, _, _, hc⟩ := ha0.out.at (by omega)
      cases hv
      obtain ⟨g2, o2, c2, hv2, _, _, _, hc2⟩ := hb0.out.at (by omega)
      cases hv2
      have hcj := hc j hlt
      have hcj2 := hc2 j hlt
      obtain ⟨y, hy⟩ : ∃ y, y = xs.getD j 0 := ⟨_, rfl⟩
      rw [← hy] at hcj hcj2
      have hi1 : (j : Int) < xs.length := by omega
      have hi0 : (0 : Int) ≤ (j : Int) := by omega
      clear hc hc2 hy
      go_wp2_with fail
      go_quiet (fail)
      go_wp2_with fail
      go_roundw
      case rel => exact ⟨j + 1, by omega, by go_num, _, rfl⟩
      case measure => simp [intOf]; omega
    · go_wp2_with fail
      go_ret
      exact ⟨rfl, by (repeat (first | exact Fr.refl _ _ | refine Fr.setCell ?_ (.inl (by first | (simp; done) | (simp; omega) | omega)) _ | refine Fr.alloc ?_ _ | refine Fr.drew ?_ | refine Fr.drewN ?_ _ | refine Fr.thenNo ?_ (by assumption)))⟩

end Go.Proofs.Ytfglpigoljclbaa.H
