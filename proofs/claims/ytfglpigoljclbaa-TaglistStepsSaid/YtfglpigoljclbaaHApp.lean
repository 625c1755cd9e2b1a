/- append of a slice that reads as a list, nil let in, onto an owned row. -/
import Derived.Test.YtfglpigoljclbaaHSl
set_option linter.unusedVariables false
namespace Go.Proofs.Ytfglpigoljclbaa.H
open Go.RowKit
variable {S S' T : Nat → Prop} {a b c w w' : World} {e size n : Nat} {v : Value} {xs ys : List Value}
variable {P : Program} {ops : Array Oper} {rest : List Oper} {o : Oper} {act : Act} {Q : Exit → Act → World → Prop}

/-- A nil slice appended to an owned row changes nothing. -/
theorem run_append_nothing (t ty el : TypeId) (i : TypeInfo) (ht : P.underlying t = some (.slice el)) (hi : P.info? el = some i) (HO : Own w S el size v n xs) (c : Nat) :
    (Builtin.append_ #[t, t] ty #[v, .slice none 0 c]).run P w = .ok v w := by
  rcases HO.1.2 with ⟨rfl, rfl⟩ | ⟨g, cap, cur, rfl, _, _, hnc, _⟩
  · simp [Builtin.append_, run_underlying ht, sizeOf, typeInfo, hi, Builtin.lenOf, Builtin.firstCells]
  · simp [Builtin.append_, run_underlying ht, sizeOf, typeInfo, hi, Builtin.lenOf, Builtin.firstCells, hnc, storeCells]

theorem run_append_rd (t ty el : TypeId) (z : Value) (bytes : Nat)
    (ht : P.underlying t = some (.slice el)) (hinfo : (P.info? el).map (fun i => (i.zero, i.size, i.bytes)) = some (some z, 1, bytes)) (hz : z.cells.size = 1) (hby : 0 < bytes)
    (HO : Own w S el 1 v n xs) (v2 : Value) (news : List Value) (HR : Rd w S' v2 news) (h1 : ∀ u ∈ news, u.oneCell' = true) (hb : (n + news.length) * bytes ≤ 140737488355328) :
    ∃ v' w', (Builtin.append_ #[t, t] ty #[v, v2]).run P w = .ok v' w' ∧ Own w' (Gr S w) el 1 v' (n + news.length) (xs ++ news) ∧ Fr (Row v) w w' := by
  have hlen : n + news.length ≤ 140737488355328 := Nat.le_trans (Nat.le_mul_of_pos_right _ hby) hb
  obtain ⟨A, cc, rfl, hlc, hcm, hc⟩ := HR
  cases A with
  | none =>
    have hx : news = [] := by
      cases news with
      | nil => rfl
      | cons x l => obtain ⟨g, o, hA, _⟩ := hc (by simp); cases hA
    subst hx
    obtain ⟨i0, hi, hzz⟩ := Option.map_eq_some_iff.1 hinfo
    refine ⟨v, w, run_append_nothing t ty el i0 ht hi HO cc, ?_, Fr.refl _ _⟩
    simpa using HO.gr
  | some ad =>
    have hnews : ∀ j u, news[j]? = some u → w.cell? (ad.add j) = some u := by
      intro j u hj
      have hlt := (List.getElem?_eq_some_iff.1 hj).1
      obtain ⟨g, o, hA, hS, hcc⟩ := hc (by omega)
      cases hA
      have e : ((⟨g, o, none⟩ : Addr).add j) = ⟨g, o + j, none⟩ := by unfold Addr.add; split <;> simp_all
      rw [e, hcc j hlt, hj]
    obtain ⟨v', w', hr, h2, h3, _⟩ := run_append_x (P := P) t ty el z bytes ht hinfo hz (by decide) HO ad news.length cc news (by simp) hnews h1 (by simp only [maxLen]; omega) hb
    exact ⟨v', w', hr, h2, h3⟩

theorem wp_append_rd (hgd : o.guard = none) (s x : Operand) (t el : TypeId) (z : Value) (bytes : Nat)
    (ho : o.op = .call { callee := .builtin .append, args := #[s, x], argTypes := #[t, t] })
    (ht : P.underlying t = some (.slice el)) (hinfo : (P.info? el).map (fun i => (i.zero, i.size, i.bytes)) = some (some z, 1, bytes)) (hz : z.cells.size = 1) (hby : 0 < bytes)
    (HO : Own w S el 1 v n xs) (hs : act.eval s = v) (v2 : Value) (hx : act.eval x = v2) (news : List Value) (HR : Rd w S' v2 news) (h1 : ∀ u ∈ news, u.oneCell' = true) (hb : (n + news.length) * bytes ≤ 140737488355328)
    (h : ∀ v' w', Own w' (Gr S w) el 1 v' (n + news.length) (xs ++ news) → Fr (Row v) w w' → wpList P ops Q rest (act.put o.dst v') w') :
    wpList P ops Q (o :: rest) act w := by
  refine wpList_plain hgd fun K hK => ?_
  obtain ⟨v', w', hr, h2, h3⟩ := run_append_rd (P := P) t o.type el z bytes ht hinfo hz hby HO v2 news HR h1 hb
  unfold Oper.wp execOp
  simp only [ho, resolve, invoke, builtin, Sem.run_bind, Sem.run_pure, Result.andThen_ok, List.map_toArray, List.map_cons, List.map_nil, hs, hx, hr]
  exact hK _ _ (h v' w' h2 h3)
end Go.Proofs.Ytfglpigoljclbaa.H
