/- From the row's reading of a config, of words, and of a slice of jobs to what the walks take. -/
import Derived.Test.YtfglpigoljclbaaHOpen
import Derived.Test.YtfglpigoljclbaaHSteps7W
import Derived.Test.YtfglpigoljclbaaRows
import Derived.Deep.Slices
import Derived.Deep.Fields
import Derived.ChangeSame
import Derived.Lib.SmallJoins
set_option linter.unusedVariables false
namespace Go.Proofs.Ytfglpigoljclbaa.H
open Go.ChangeShapes Go.WideShapes Go.ChangeAt Go.RowKit Go.Deep Go.Joins

variable {H : Type} {enc : TypeId × Value → H} {P : Program} {w : World} {base : Nat} {spare : Nat → Bool} {held : Bool}

/-- A slice of structs of one-cell fields: every element's every field. -/
theorem open_slice_cells {t e : TypeId} {fs : Array Field} {fuel : Nat} {cs : List Value} {x : DataW H × List MemPlace} (ht : P.underlying t = some (.slice e)) (he : P.underlying e = some (.struct fs))
    (hone : oneCellFields P fs = true) (hC : P.cellsOf e = fs.size) (h : DataW.trod enc P w base spare held fuel t cs = some x) :
    cs = [.slice none 0 0] ∨ ∃ (a : Addr) (len cap : Nat), cs = [.slice (some a) len cap] ∧ len ≤ cap ∧ cap ≤ maxLen ∧
      ∀ i, i < len → ∃ n : Nat, ∀ (j : Nat) (f : Field), fs[j]? = some f → ∃ (v : Value) (y : DataW H × List MemPlace), w.cell? (a.add (i * fs.size + j)) = some v ∧ DataW.trod enc P w base spare held n f.type [v] = some y := by
  rcases open_slice ht h with h0 | ⟨a, len, cap, m, n, D, Pl, hcs, hb, hl, hm, hmm, hx, hi⟩
  · exact .inl h0.1
  · refine .inr ⟨a, len, cap, hcs, hl, hm, fun i hil => ?_⟩
    have him : i < m := by rw [hmm]; split <;> omega
    obtain ⟨cs', hc, ht'⟩ := hi i him
    rw [hC] at hc
    obtain ⟨ys, n', hn', hy, hlen, hyl, hf⟩ := DataW.trod_struct he ht'
    obtain ⟨_, hcl, hat⟩ := World.cells?_some hc
    refine ⟨n', fun j f hj => ?_⟩
    obtain ⟨ho, hk⟩ := hone_of hone j f hj
    have hjl : j < fs.size := (Array.getElem?_eq_some_iff.1 hj).1
    have hcell := hat j hjl
    have hv : cs'[j]? = some (cs'[j]'(by omega)) := List.getElem?_eq_getElem (by omega)
    have h1 := hf j f hj
    rw [ho, hk] at h1
    have hone' : (cs'.drop j).take 1 = [cs'[j]'(by omega)] := by
      rw [List.drop_eq_getElem_cons (by omega)]
      rfl
    rw [hone'] at h1
    have hys : ys[j]? = some (ys[j]'(by omega)) := List.getElem?_eq_getElem (by omega)
    exact ⟨_, _, by rw [← Go.Deep.add_add, hcell, hv], h1.trans hys⟩

theorem choose_list {α : Type} (n : Nat) (p : Nat → α → Prop) (h : ∀ i, i < n → ∃ a, p i a) : ∃ l : List α, l.length = n ∧ ∀ i a, l[i]? = some a → p i a := by
  induction n with
  | zero => exact ⟨[], rfl, fun i a h => by simp at h⟩
  | succ n ih =>
    obtain ⟨l, hl, hp⟩ := ih (fun i hi => h i (by omega))
    obtain ⟨a, ha⟩ := h n (by omega)
    refine ⟨l ++ [a], by simp [hl], fun i b hb => ?_⟩
    by_cases e : i < n
    · rw [List.getElem?_append_left (by omega)] at hb; exact hp i b hb
    · have hi := (List.getElem?_eq_some_iff.1 hb).1
      simp at hi
      obtain rfl : i = n := by omega
      rw [List.getElem?_append_right (by omega), hl] at hb
      simp at hb
      rw [← hb]; exact ha

theorem addr_plain {a : Addr} {v : Value} (h : w.cell? (a.add 0) = some v) : ∃ b off, a = ⟨b, off, none⟩ := by
  obtain ⟨b, off, spot⟩ := a
  have hspot : spot = none := by simpa [Addr.add] using World.cell?_spot h
  subst hspot
  exact ⟨b, off, rfl⟩

set_option maxRecDepth 100000 in
/-- A config. -/
theorem cfg_of_trod {r : Reach} {b0 : Nat} {v : Value} {d : DataW H} {p : List MemPlace} (hv : Value.okWide Try.prog w r b0 25 v) (h : DataW.Trod enc Try.prog w base spare held 25 v d p) : ∃ n s h t, v = cfg n s h t := by
  obtain ⟨v0, v1, v2, v3, y0, y1, y2, y3, n, rfl, _, _, h0, h1, h2, h3⟩ := open_agg4 Try.underlying25 (by kernel_rfl) (by kernel_rfl) hv h
  obtain ⟨a, ha, _⟩ := DataW.trod_int Try.underlying3 h0
  obtain ⟨b, hb, _⟩ := DataW.trod_int Try.underlying3 h1
  obtain ⟨c, hc, _⟩ := DataW.trod_int Try.underlying3 h2
  obtain ⟨d, hd, _⟩ := DataW.trod_int Try.underlying23 h3
  cases ha; cases hb; cases hc; cases hd
  exact ⟨a, b, c, d, rfl⟩

theorem words_of {xs : List Int} (h : ∀ x ∈ xs, (Lit.int .u64 x).wf = true) : Words xs := fun j => by
  by_cases hj : j < xs.length
  · rw [List.getD_eq_getElem?_getD, List.getElem?_eq_getElem hj]
    exact u64_of (h _ (List.getElem_mem hj))
  · rw [List.getD_eq_getElem?_getD, List.getElem?_eq_none (by omega)]
    simp

set_option maxRecDepth 100000 in
/-- Jobs of law 7. -/
theorem jobs_of_trod {r : Reach} {b0 : Nat} {v : Value} {d : DataW H} {p : List MemPlace} (hv : Value.okWide Try.prog w r b0 50 v) (h : DataW.Trod enc Try.prog w base spare held 50 v d p) : ∃ js, RdJobs w v js := by
  obtain ⟨A, len, cap, rfl⟩ := okWide_slice Try.underlying50 hv
  obtain ⟨fuel, hf⟩ := h
  rcases open_slice_cells Try.underlying50 Try.underlying65 (by kernel_rfl) (by kernel_rfl) hf with h0 | ⟨a, len', cap', h0, hl, hm, hi⟩
  · simp [Value.cells] at h0
    obtain ⟨rfl, rfl, rfl⟩ := h0
    exact ⟨[], none, 0, rfl, by simp, by simp [maxLen], fun h => by simp at h⟩
  · simp [Value.cells] at h0
    obtain ⟨rfl, rfl, rfl⟩ := h0
    obtain ⟨js, hjl, hjp⟩ := choose_list len (fun i (q : JobT) => w.cell? (a.add (i * 4)) = some (.bool q.1) ∧ w.cell? (a.add (i * 4 + 1)) = some (.bool q.2.1) ∧ w.cell? (a.add (i * 4 + 2)) = some (.int .i64 q.2.2.1) ∧ w.cell? (a.add (i * 4 + 3)) = some (.int .i64 q.2.2.2)) (fun i hil => by
      obtain ⟨n, hf⟩ := hi i hil
      obtain ⟨v0, y0, c0, t0⟩ := hf 0 _ rfl
      obtain ⟨v1, y1, c1, t1⟩ := hf 1 _ rfl
      obtain ⟨v2, y2, c2, t2⟩ := hf 2 _ rfl
      obtain ⟨v3, y3, c3, t3⟩ := hf 3 _ rfl
      obtain ⟨b0, e0, _⟩ := DataW.trod_bool Try.underlying4 t0
      obtain ⟨b1, e1, _⟩ := DataW.trod_bool Try.underlying4 t1
      obtain ⟨b2, e2, _⟩ := DataW.trod_int Try.underlying3 t2
      obtain ⟨b3, e3, _⟩ := DataW.trod_int Try.underlying3 t3
      cases e0; cases e1; cases e2; cases e3
      exact ⟨(b0, b1, b2, b3), c0, c1, c2, c3⟩)
    refine ⟨js, some a, cap, by rw [hjl], by omega, hm, fun hp => ?_⟩
    obtain ⟨q0, hq0⟩ : ∃ q, js[0]? = some q := ⟨js[0]'hp, List.getElem?_eq_getElem hp⟩
    obtain ⟨b, off, rfl⟩ := addr_plain (by simpa using (hjp 0 q0 hq0).1)
    refine ⟨b, off, rfl, fun j q hq => ?_⟩
    have e : ∀ k, ((⟨b, off, none⟩ : Addr).add k) = ⟨b, off + k, none⟩ := fun k => by unfold Addr.add; split <;> simp_all
    have := hjp j q hq
    simp only [e] at this
    simpa only [Nat.add_assoc] using this
end Go.Proofs.Ytfglpigoljclbaa.H
