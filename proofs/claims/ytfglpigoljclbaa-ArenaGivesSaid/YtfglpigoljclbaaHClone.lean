/- slices.Clone at uint64 and uint32: the clone owns a new row that reads as what was cloned. -/
import Derived.Test.YtfglpigoljclbaaHSl
import Derived.Test.YtfglpigoljclbaaProg
import Derived.Lib.SliceRun
set_option linter.unusedVariables false
namespace Go.Proofs.Ytfglpigoljclbaa.H
open Go.RowKit

theorem info26 : (Try.prog.info? 26).map (fun i => (i.zero, i.size, i.bytes)) = some (some (.int .u64 0), 1, 8) := by kernel_rfl
theorem info23 : (Try.prog.info? 23).map (fun i => (i.zero, i.size, i.bytes)) = some (some (.int .u32 0), 1, 4) := by kernel_rfl


theorem Clone64 (w : World) (S : Nat → Prop) (v : Value) (xs : List Value) (hv : Rd w S v xs) (h1 : ∀ u ∈ xs, u.oneCell' = true) (hb : xs.length * 8 ≤ 140737488355328) :
    Calls Try.prog 68 #[v] w fun e w' => ∃ v', e = .returned v' ∧ Own w' (New w.heap.size) 26 1 v' xs.length xs ∧ Fr No w w' := by
  have q : ∀ (w : World) (a : Option Addr) (n c n' c' : Nat), (binOp .eql 36 (.slice a n c) (.slice none n' c')).run Try.prog w = .ok (.bool a.isNone) w := fun w a n c n' c' => Lib.run_eql_slice_nil w _ _ a n c n' c' Try.underlying36
  obtain ⟨A, c, rfl, hl, hm, hc⟩ := hv
  cases A with
  | none =>
    have hx : xs = [] := by
      cases xs with
      | nil => rfl
      | cons x l => obtain ⟨g, o, hA, _⟩ := hc (by simp); cases hA
    subst hx
    go_enter Try.func68, Try.ntmps68
    go_wp2_with fail
    go_ret
    exact ⟨_, rfl, Own.nil _ _ _ _, by (repeat (first | exact Fr.refl _ _ | refine Fr.setCell ?_ (.inl (by first | (simp; done) | (simp; omega) | omega)) _ | refine Fr.alloc ?_ _ | refine Fr.drew ?_ | refine Fr.drewN ?_ _ | refine Fr.thenNo ?_ (by assumption)))⟩
  | some ad =>
    have hnews : ∀ j u, xs[j]? = some u → (w.alloc (.cells #[] 26)).cell? (ad.add j) = some u := by
      intro j u hj
      have hlt := (List.getElem?_eq_some_iff.1 hj).1
      obtain ⟨g, o, hA, hS, hcc⟩ := hc (by omega)
      cases hA
      have e : ((⟨g, o, none⟩ : Addr).add j) = ⟨g, o + j, none⟩ := by unfold Addr.add; split <;> simp_all
      have hlt2 := hcc j hlt
      rw [hj] at hlt2
      rw [e, World.cell?_alloc_lt _ _ _ (World.block_lt_of_cell? w _ hlt2)]
      exact hlt2
    go_enter Try.func68, Try.ntmps68
    go_wp2_with (at_builtin; go_loud (refine wp_append_x rfl _ _ 36 26 (.int .u64 0) 8 rfl Try.underlying36 info26 rfl (by decide) (Own.lit _ (S := New w.heap.size) (n := 0) (Nat.le_refl _) (blk_new w #[] _) rfl (by decide)) rfl ad xs.length c xs rfl (by simp) hnews h1 (by simp only [maxLen]; omega) (by omega) ?_; intro v' w' hO hF hN))
    go_ret
    refine ⟨_, rfl, ?_, ?_⟩
    · have := hO.wide (S' := New w.heap.size) (fun g hg _ => by rcases hg with hg | hg; exact hg; simp at hg; exact Nat.le_of_succ_le hg)
      simpa using this
    · exact ((Fr.refl No w).alloc _).trans hF (fun i hi h => by simp [Row, Value.ownBlock] at h; omega)

theorem Clone32 (w : World) (S : Nat → Prop) (v : Value) (xs : List Value) (hv : Rd w S v xs) (h1 : ∀ u ∈ xs, u.oneCell' = true) (hb : xs.length * 8 ≤ 140737488355328) :
    Calls Try.prog 107 #[v] w fun e w' => ∃ v', e = .returned v' ∧ Own w' (New w.heap.size) 23 1 v' xs.length xs ∧ Fr No w w' := by
  have q : ∀ (w : World) (a : Option Addr) (n c n' c' : Nat), (binOp .eql 41 (.slice a n c) (.slice none n' c')).run Try.prog w = .ok (.bool a.isNone) w := fun w a n c n' c' => Lib.run_eql_slice_nil w _ _ a n c n' c' Try.underlying41
  obtain ⟨A, c, rfl, hl, hm, hc⟩ := hv
  cases A with
  | none =>
    have hx : xs = [] := by
      cases xs with
      | nil => rfl
      | cons x l => obtain ⟨g, o, hA, _⟩ := hc (by simp); cases hA
    subst hx
    go_enter Try.func107, Try.ntmps107
    go_wp2_with fail
    go_ret
    exact ⟨_, rfl, Own.nil _ _ _ _, by (repeat (first | exact Fr.refl _ _ | refine Fr.setCell ?_ (.inl (by first | (simp; done) | (simp; omega) | omega)) _ | refine Fr.alloc ?_ _ | refine Fr.drew ?_ | refine Fr.drewN ?_ _ | refine Fr.thenNo ?_ (by assumption)))⟩
  | some ad =>
    have hnews : ∀ j u, xs[j]? = some u → (w.alloc (.cells #[] 23)).cell? (ad.add j) = some u := by
      intro j u hj
      have hlt := (List.getElem?_eq_some_iff.1 hj).1
      obtain ⟨g, o, hA, hS, hcc⟩ := hc (by omega)
      cases hA
      have e : ((⟨g, o, none⟩ : Addr).add j) = ⟨g, o + j, none⟩ := by unfold Addr.add; split <;> simp_all
      have hlt2 := hcc j hlt
      rw [hj] at hlt2
      rw [e, World.cell?_alloc_lt _ _ _ (World.block_lt_of_cell? w _ hlt2)]
      exact hlt2
    go_enter Try.func107, Try.ntmps107
    go_wp2_with (at_builtin; go_loud (refine wp_append_x rfl _ _ 41 23 (.int .u32 0) 4 rfl Try.underlying41 info23 rfl (by decide) (Own.lit _ (S := New w.heap.size) (n := 0) (Nat.le_refl _) (blk_new w #[] _) rfl (by decide)) rfl ad xs.length c xs rfl (by simp) hnews h1 (by simp only [maxLen]; omega) (by omega) ?_; intro v' w' hO hF hN))
    go_ret
    refine ⟨_, rfl, ?_, ?_⟩
    · have := hO.wide (S' := New w.heap.size) (fun g hg _ => by rcases hg with hg | hg; exact hg; simp at hg; exact Nat.le_of_succ_le hg)
      simpa using this
    · exact ((Fr.refl No w).alloc _).trans hF (fun i hi h => by simp [Row, Value.ownBlock] at h; omega)

end Go.Proofs.Ytfglpigoljclbaa.H
