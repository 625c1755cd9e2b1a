/- LayoutLists' plain part: the words with a list written into them. -/
import Derived.Test.YtfglpigoljclbaaHChain
set_option linter.unusedVariables false
set_option linter.unusedSectionVars false
namespace Go.Proofs.Ytfglpigoljclbaa.H

/-- The node behind the i-th one of a list; 0 behind the last one. -/
def nextOf (l : List Int) (i : Nat) : Int := l.getD (i + 1) 0

/-- The words when the first k nodes of l are written. -/
def wrote (l : List Int) (t : Int) (ws : List Int) : Nat → List Int
  | 0 => ws
  | k + 1 => ((wrote l t ws k).set (2 * l.getD k 0).toNat (nextOf l k + t * 4294967296)).set (2 * l.getD k 0 + 1).toNat (1000 + k)

theorem wrote_len (l : List Int) (t : Int) (ws : List Int) (k : Nat) : (wrote l t ws k).length = ws.length := by
  induction k with
  | zero => rfl
  | succ k ih => simp [wrote, ih]

theorem getD_set (ws : List Int) (i j : Nat) (x : Int) (hi : i < ws.length) : (ws.set i x).getD j 0 = if j = i then x else ws.getD j 0 := by
  simp only [List.getD_eq_getElem?_getD, List.getElem?_set]
  by_cases h : i = j
  · subst h; simp [hi]
  · rw [if_neg h, if_neg (Ne.symm h)]

theorem getD_set_ne (ws : List Int) (i j : Nat) (x : Int) (h : j ≠ i) : (ws.set i x).getD j 0 = ws.getD j 0 := by
  simp only [List.getD_eq_getElem?_getD, List.getElem?_set]
  rw [if_neg (Ne.symm h)]

theorem Words.set {ws : List Int} (h : Words ws) (i : Nat) (x : Int) (h0 : 0 ≤ x) (h1 : x < 18446744073709551616) : Words (ws.set i x) := by
  intro j
  by_cases hi : i < ws.length
  · rw [getD_set _ _ _ _ hi]
    by_cases hj : j = i
    · rw [if_pos hj]; exact ⟨h0, h1⟩
    · rw [if_neg hj]; exact h j
  · rw [List.set_eq_of_length_le (by omega)]; exact h j

theorem nodup_getD {l : List Int} (hd : l.Nodup) {i j : Nat} (hi : i < l.length) (hj : j < l.length) (h : i ≠ j) : l.getD i 0 ≠ l.getD j 0 := by
  rw [List.getD_eq_getElem?_getD, List.getD_eq_getElem?_getD, List.getElem?_eq_getElem hi, List.getElem?_eq_getElem hj]
  intro e
  exact h ((List.getElem_inj hd).1 e)

theorem getD_mem' {l : List Int} {i : Nat} (hi : i < l.length) : l.getD i 0 ∈ l := by
  rw [List.getD_eq_getElem?_getD, List.getElem?_eq_getElem hi]
  exact List.getElem_mem hi

theorem nextOf_in {l : List Int} {n : Int} (hn : 0 ≤ n) (hr : ∀ x ∈ l, 1 ≤ x ∧ x ≤ n) (i : Nat) : 0 ≤ nextOf l i ∧ nextOf l i ≤ n := by
  by_cases h : i + 1 < l.length
  · have := hr _ (getD_mem' h); unfold nextOf; omega
  · have e : nextOf l i = 0 := by unfold nextOf; rw [List.getD_eq_getElem?_getD, List.getElem?_eq_none (by omega)]; rfl
    omega

theorem wrote_get (l : List Int) (t n : Int) (ws : List Int) (hd : l.Nodup) (hr : ∀ x ∈ l, 1 ≤ x ∧ x ≤ n) (hw : 2 + 2 * n ≤ (ws.length : Int)) (k : Nat) (hk : k ≤ l.length) (i : Nat) (hi : i < k) :
    (wrote l t ws k).getD (2 * l.getD i 0).toNat 0 = nextOf l i + t * 4294967296 ∧ (wrote l t ws k).getD (2 * l.getD i 0 + 1).toNat 0 = 1000 + i := by
  induction k with
  | zero => omega
  | succ k ih =>
    have hik := hr _ (getD_mem' (show i < l.length by omega))
    have hkk := hr _ (getD_mem' (show k < l.length by omega))
    have hl := wrote_len l t ws k
    have h1 : (2 * l.getD k 0).toNat < (wrote l t ws k).length := by omega
    have h2 : (2 * l.getD k 0 + 1).toNat < ((wrote l t ws k).set (2 * l.getD k 0).toNat (nextOf l k + t * 4294967296)).length := by rw [List.length_set]; omega
    rw [wrote, getD_set _ _ _ _ h2, getD_set _ _ _ _ h1, getD_set _ _ _ _ h2, getD_set _ _ _ _ h1]
    by_cases e : i = k
    · subst e
      rw [if_neg (by omega), if_pos rfl, if_pos rfl]
      exact ⟨rfl, rfl⟩
    · have hne := nodup_getD hd (show i < l.length by omega) (show k < l.length by omega) e
      rw [if_neg (by omega), if_neg (by omega), if_neg (by omega), if_neg (by omega)]
      exact ih (by omega) (by omega)

theorem wrote_words (l : List Int) (t n : Int) (ws : List Int) (hr : ∀ x ∈ l, 1 ≤ x ∧ x ≤ n) (hn : 0 ≤ n) (hn2 : n < 4294967296) (t0 : 0 ≤ t) (t1 : t < 4294967296) (hw : Words ws) (k : Nat) (hk : k ≤ 1000000) : Words (wrote l t ws k) := by
  induction k with
  | zero => exact hw
  | succ k ih =>
    have := nextOf_in hn hr k
    rw [wrote]
    exact ((ih (by omega)).set _ _ (by omega) (by omega)).set _ _ (by omega) (by omega)

/-- Chain over nodes that are written one behind the other. -/
theorem chainGo_list (n : Int) (ws l : List Int) (hr : ∀ x ∈ l, 1 ≤ x ∧ x ≤ n) (hx : ∀ i, i < l.length → ws.getD (2 * l.getD i 0).toNat 0 % 4294967296 = nextOf l i) :
    ∀ (f K : Nat) (acc : List Int), K ≤ l.length → l.length - K < f → (acc.length : Int) + (l.length - K : Nat) ≤ n → chainGo n ws f (l.getD K 0) acc = some (acc ++ l.drop K) := by
  intro f
  induction f with
  | zero => intro K acc _ h; omega
  | succ f ih =>
    intro K acc hK hf ha
    by_cases hKl : K < l.length
    · have hin := hr _ (getD_mem' hKl)
      rw [chainGo, if_neg (by omega), if_neg (by omega), hx K hKl, nextOf, ih (K + 1) _ (by omega) (by omega) (by simp only [List.length_append, List.length_singleton]; omega)]
      rw [List.append_assoc]
      congr 1
      rw [List.drop_eq_getElem_cons hKl, List.getD_eq_getElem?_getD, List.getElem?_eq_getElem hKl]
      rfl
    · have e : l.getD K 0 = 0 := by rw [List.getD_eq_getElem?_getD, List.getElem?_eq_none (by omega)]; rfl
      rw [chainGo, if_pos e, List.drop_of_length_le (by omega)]
      simp

theorem chainGo_ring (n : Int) (ws l : List Int) (hr : ∀ x ∈ l, 1 ≤ x ∧ x ≤ n) (hx : ∀ x ∈ l, ws.getD (2 * x).toNat 0 % 4294967296 ∈ l) :
    ∀ (f : Nat) (x : Int) (acc : List Int), x ∈ l → chainGo n ws f x acc = none := by
  intro f
  induction f with
  | zero => intros; rfl
  | succ f ih =>
    intro x acc h
    have := hr x h
    rw [chainGo, if_neg (by omega)]
    by_cases hb : n < x ∨ n ≤ acc.length
    · rw [if_pos hb]
    · rw [if_neg hb]; exact ih _ _ (hx x h)

theorem fresh_words (n s h t : Int) (ok : cfgOk n s h) (t0 : 0 ≤ t) (t1 : t < 4294967296) : Words (freshL n s h t) := by
  obtain ⟨h1, h2, h3, h4, h5, h6⟩ := ok
  intro j
  rw [freshL]
  by_cases hj : j < (2 + 2 * n + s + h).toNat
  · rw [tab_get _ _ _ hj]
    unfold freshAt
    repeat' split
    all_goals omega
  · rw [List.getD_eq_getElem?_getD, List.getElem?_eq_none (by rw [tab_len]; omega)]
    decide

section
variable {l : List Int} {n s h t : Int} (ok : cfgOk n s h) (t0 : 0 ≤ t) (t1 : t < 4294967296) (hd : l.Nodup) (hr : ∀ x ∈ l, 1 ≤ x ∧ x ≤ n) (hl : 0 < l.length) (hl2 : l.length ≤ 1000)
include ok t0 t1 hd hr hl hl2

theorem two_words : Words ((wrote l t (freshL n s h t) l.length).set 0 (l.getD 0 0 + (t + 1) % 4294967296 * 4294967296)) := by
  have hf := fresh_words n s h t ok t0 t1
  obtain ⟨h1, h2, h3, h4, h5, h6⟩ := ok
  have := hr _ (getD_mem' hl)
  exact (wrote_words l t n _ hr (by omega) (by omega) t0 t1 hf _ (by omega)).set _ _ (by omega) (by omega)

theorem two_get (i : Nat) (hi : i < l.length) : ((wrote l t (freshL n s h t) l.length).set 0 (l.getD 0 0 + (t + 1) % 4294967296 * 4294967296)).getD (2 * l.getD i 0).toNat 0 = nextOf l i + t * 4294967296 ∧ ((wrote l t (freshL n s h t) l.length).set 0 (l.getD 0 0 + (t + 1) % 4294967296 * 4294967296)).getD (2 * l.getD i 0 + 1).toNat 0 = 1000 + i := by
  obtain ⟨h1, h2, h3, h4, h5, h6⟩ := ok
  have := hr _ (getD_mem' hi)
  rw [getD_set_ne _ _ _ _ (by omega), getD_set_ne _ _ _ _ (by omega)]
  exact wrote_get l t n _ hd hr (by rw [freshL, tab_len]; omega) _ (Nat.le_refl _) i hi

theorem two_chain (len : (l.length : Int) ≤ n) (K : Nat) (hK : K < l.length) (x : Int) (hx : x % 4294967296 = l.getD K 0) : chainL n ((wrote l t (freshL n s h t) l.length).set 0 (l.getD 0 0 + (t + 1) % 4294967296 * 4294967296)) x = some (l.drop K) := by
  have hg := two_get ok t0 t1 hd hr hl hl2
  obtain ⟨h1, h2, h3, h4, h5, h6⟩ := ok
  rw [chainL, hx, chainGo_list n _ l hr (fun i hi => by
    rw [(hg i hi).1]
    have := nextOf_in (by omega) hr i
    omega) _ K [] (by omega) (by omega) (by simp only [List.length_nil]; omega)]
  rfl

theorem two_head : ((wrote l t (freshL n s h t) l.length).set 0 (l.getD 0 0 + (t + 1) % 4294967296 * 4294967296)).getD 0 0 = l.getD 0 0 + (t + 1) % 4294967296 * 4294967296 := by
  obtain ⟨h1, h2, h3, h4, h5, h6⟩ := ok
  rw [getD_set _ _ _ _ (by rw [wrote_len, freshL, tab_len]; omega), if_pos rfl]

theorem two_stack (len : (l.length : Int) ≤ n) : chainL n ((wrote l t (freshL n s h t) l.length).set 0 (l.getD 0 0 + (t + 1) % 4294967296 * 4294967296)) (((wrote l t (freshL n s h t) l.length).set 0 (l.getD 0 0 + (t + 1) % 4294967296 * 4294967296)).getD 0 0) = some l := by
  have := hr _ (getD_mem' hl)
  have ok' := ok
  obtain ⟨h1, h2, h3, h4, h5, h6⟩ := ok'
  rw [two_chain ok t0 t1 hd hr hl hl2 len 0 hl _ (by rw [two_head ok t0 t1 hd hr hl hl2]; omega)]
  rfl

theorem two_values : stackL ((wrote l t (freshL n s h t) l.length).set 0 (l.getD 0 0 + (t + 1) % 4294967296 * 4294967296)) l = tab l.length (fun j => 1000 + (l.length : Int) - 1 - j) := by
  rw [stackL]
  refine tab_congr fun j hj => ?_
  rw [(two_get ok t0 t1 hd hr hl hl2 (l.length - 1 - j) (by omega)).2]
  omega

theorem three_chain (K : Nat) (hK : K < l.length) (W : List Int) (hW : W = ((wrote l t (freshL n s h t) l.length).set 0 (l.getD 0 0 + (t + 1) % 4294967296 * 4294967296)).set (2 * l.getD (l.length - 1) 0).toNat (l.getD K 0)) : Words W ∧ chainL n W (W.getD 0 0) = none := by
  have hw := two_words ok t0 t1 hd hr hl hl2
  have hg := two_get ok t0 t1 hd hr hl hl2
  have hh := two_head ok t0 t1 hd hr hl hl2
  obtain ⟨h1, h2, h3, h4, h5, h6⟩ := ok
  have hz := hr _ (getD_mem' (show l.length - 1 < l.length by omega))
  have hy := hr _ (getD_mem' hK)
  have h0 := hr _ (getD_mem' hl)
  subst hW
  refine ⟨hw.set _ _ (by omega) (by omega), ?_⟩
  rw [getD_set_ne _ _ _ _ (by omega), hh, chainL]
  have e : (l.getD 0 0 + (t + 1) % 4294967296 * 4294967296) % 4294967296 = l.getD 0 0 := by omega
  rw [e]
  refine chainGo_ring n _ l hr ?_ _ _ _ (getD_mem' hl)
  intro x hx
  obtain ⟨i, hi, rfl⟩ := List.getElem_of_mem hx
  have hi2 : l[i] = l.getD i 0 := by rw [List.getD_eq_getElem?_getD, List.getElem?_eq_getElem hi]; rfl
  rw [hi2, getD_set _ _ _ _ (by rw [List.length_set, wrote_len, freshL, tab_len]; omega)]
  have hin := hr _ (getD_mem' hi)
  by_cases hl1 : i = l.length - 1
  · subst hl1
    rw [if_pos rfl]
    have : l.getD K 0 % 4294967296 = l.getD K 0 := by omega
    rw [this]
    exact getD_mem' hK
  · have hne := nodup_getD hd hi (show l.length - 1 < l.length by omega) hl1
    rw [if_neg (by omega), (hg i hi).1]
    have hnx := nextOf_in (by omega) hr i
    have : (nextOf l i + t * 4294967296) % 4294967296 = nextOf l i := by omega
    rw [this]
    exact getD_mem' (by omega)
end
end Go.Proofs.Ytfglpigoljclbaa.H
