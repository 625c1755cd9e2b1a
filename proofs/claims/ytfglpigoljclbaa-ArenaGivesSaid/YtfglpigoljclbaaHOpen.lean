/- From the row's reading of a slice of numbers to 'Rd'. -/
import Derived.Test.YtfglpigoljclbaaHPick
import Derived.Test.YtfglpigoljclbaaHSl
import Derived.ProofKit
import Derived.OpenShut
set_option linter.unusedVariables false
namespace Go.Proofs.Ytfglpigoljclbaa.H
open Go.ChangeShapes Go.WideShapes Go.ChangeAt Go.RowKit

theorem rd_of_trod {H : Type} {enc : TypeId × Value → H} {P : Program} {w : World} {r : Reach} {b0 : Nat} {held : Bool} {t e : TypeId} {k : IntKind} {v : Value} {d : DataW H} {ps : List MemPlace}
    (ht : P.underlying t = some (.slice e)) (he : P.underlying e = some (.int k)) (hc : P.cellsOf e = 1) (hval : Value.okWide P w r b0 t v)
    (h : DataW.Trod enc P w 0 (fun _ => true) held t v d ps) : ∃ xs : List Int, Rd w (fun _ => True) v (us k xs) ∧ ∀ x ∈ xs, (Lit.int k x).wf = true := by
  obtain ⟨A, len, cap, rfl⟩ := okWide_slice ht hval
  obtain ⟨fuel, hf⟩ := h
  rcases open_ints ht he hc hf with ⟨h0, _⟩ | ⟨a, len', cap', zs, h0, _, hl, hm, hz, _, hcell, hwf⟩
  · simp [Value.cells] at h0
    obtain ⟨rfl, rfl, rfl⟩ := h0
    exact ⟨[], ⟨none, 0, rfl, by simp [us], by simp [maxLen], fun h => by simp [us] at h⟩, by simp⟩
  · simp [Value.cells] at h0
    obtain ⟨rfl, rfl, rfl⟩ := h0
    simp only [if_true] at hz
    have hlen : (us k (zs.take len)).length = len := by simp [us]; omega
    refine ⟨zs.take len, ⟨some a, cap, by rw [hlen], by rw [hlen]; exact hl, hm, fun hp => ?_⟩, fun x hx => hwf x (List.mem_of_mem_take hx)⟩
    rw [hlen] at hp ⊢
    obtain ⟨b, off, rfl, hc'⟩ := ints_at hcell (by omega)
    refine ⟨b, off, rfl, trivial, fun j hj => ?_⟩
    rw [hc' j (by omega), us_get _ _ _ (by simp; omega)]
    congr 2
    rw [List.getD_eq_getElem?_getD, List.getD_eq_getElem?_getD, List.getElem?_take_of_lt hj]

theorem i64_at {xs : List Int} (h : ∀ x ∈ xs, (Lit.int .i64 x).wf = true) (j : Nat) : I64 (xs.getD j 0) := by
  by_cases hj : j < xs.length
  · rw [List.getD_eq_getElem?_getD, List.getElem?_eq_getElem hj]
    exact i64_of (h _ (List.getElem_mem hj))
  · rw [List.getD_eq_getElem?_getD, List.getElem?_eq_none (by omega)]
    exact ⟨by decide, by decide⟩

theorem trod_lt' {H : Type} {enc : TypeId × Value → H} {P : Program} {w : World} {base : Nat} {spare : Nat → Bool} {held : Bool} {t : TypeId} {v : Value} {d : DataW H} {ps : List MemPlace}
    (h : DataW.Trod enc P w base spare held t v d ps) : ∀ x ∈ ps, x.block < w.heap.size := by
  obtain ⟨f, hf⟩ := h
  exact DataW.trod_lt f _ _ _ hf
end Go.Proofs.Ytfglpigoljclbaa.H
