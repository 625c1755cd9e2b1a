/- taglist, plain: what each step of a machine comes to, where the config is right and the place is one of the two lists'. -/
import Derived.Test.YtfglpigoljclbaaHTake
set_option linter.unusedVariables false
set_option linter.unusedSimpArgs false
namespace Go.Proofs.Ytfglpigoljclbaa.H
open Go.RowKit

/-- The words' number and the config of a plain arena: n nodes, no slots, no holders. -/
structure Pl (n : Int) (ws : List Int) : Prop where
  n1 : 1 ≤ n
  n2 : n ≤ 64
  len : (ws.length : Int) = 2 + 2 * n
  words : Words ws

theorem Pl.ok {n : Int} {ws : List Int} (h : Pl n ws) : cfgOk n 0 0 := by have := h.n1; have := h.n2; unfold cfgOk; omega

variable {n : Int} {ws : List Int} {c : Nat} {p i v u : Int}

theorem nextAt_pl (h : Pl n ws) (h1 : 1 ≤ i) (h2 : i ≤ n) : nextAt n 0 0 i = 2 * i := by rw [nextAt, if_pos ⟨h.ok, h1, h2⟩]

theorem inR_head (h : Pl n ws) (hp : p = 0 ∨ p = 1) : inR ws p := by have := h.n1; have := h.len; unfold inR; omega
theorem inR_link (h : Pl n ws) (h1 : 1 ≤ i) (h2 : i ≤ n) : inR ws (2 * i) := by have := h.len; unfold inR; omega

theorem getD_in (hw : Words ws) (j : Nat) : 0 ≤ ws.getD j 0 ∧ ws.getD j 0 < 18446744073709551616 := hw j

theorem mgo_t0 {x y z : Int} (h : Pl n ws) (hp : p = 0 ∨ p = 1) (hv : ws.getD p.toNat 0 = v) (hi : v % 4294967296 = i) (h1 : 1 ≤ i) (h2 : i ≤ n) :
    mgo n 0 0 ⟨false, p, x, y, 0, z, 0⟩ ws c = (⟨false, p, i, v, 1, z, 0⟩, ws, c + 1) := by
  have hr := inR_head h hp
  have e : ldV ws p = v := by rw [ldV, if_pos hr, hv]
  have e2 : ldN c ws p = c + 1 := by rw [ldN, if_pos hr]
  have e3 : nextAt n 0 0 i = 2 * i := nextAt_pl h h1 h2
  have e4 : ¬ i = 0 := by omega
  have e5 : ¬ 2 * i < 0 := by omega
  simp only [mgo, mstep, e, e2, hi, if_pos hr, e3, if_neg e4, if_neg e5, if_true, Bool.false_eq_true, if_false]

theorem mgo_t0_none {x y z : Int} (h : Pl n ws) (hp : p = 0 ∨ p = 1) (hv : ws.getD p.toNat 0 = v) (hi : v % 4294967296 = 0) :
    mgo n 0 0 ⟨false, p, x, y, 0, z, 0⟩ ws c = (⟨false, p, 0, v, 0, z, 2⟩, ws, c + 1) := by
  have hr := inR_head h hp
  have e : ldV ws p = v := by rw [ldV, if_pos hr, hv]
  have e2 : ldN c ws p = c + 1 := by rw [ldN, if_pos hr]
  simp only [mgo, mstep, e, e2, hi, if_pos hr, if_true, Bool.false_eq_true, if_false]

theorem mgo_t1 {x : Int} (h : Pl n ws) (h1 : 1 ≤ i) (h2 : i ≤ n) (hu : ws.getD (2 * i).toNat 0 = u) :
    mgo n 0 0 ⟨false, p, i, v, 1, x, 0⟩ ws c = (⟨false, p, i, v, 2, u, 0⟩, ws, c + 1) := by
  have e3 : nextAt n 0 0 i = 2 * i := nextAt_pl h h1 h2
  have hr := inR_link h h1 h2
  have e : ldV ws (2 * i) = u := by rw [ldV, if_pos hr, hu]
  have e2 : ldN c ws (2 * i) = c + 1 := by rw [ldN, if_pos hr]
  simp only [mgo, mstep, e3, if_pos hr, e, e2, if_true, Bool.false_eq_true, if_false]

theorem mgo_2yes {b : Bool} (h : Pl n ws) (hp : p = 0 ∨ p = 1) (hv : ws.getD p.toNat 0 = v) :
    mgo n 0 0 ⟨b, p, i, v, 2, u, 0⟩ ws c = (⟨b, p, i, v, 2, u, 1⟩, ws.set p.toNat (nextWord v (Mch.first ⟨b, p, i, v, 2, u, 0⟩)), c + 1) := by
  have hr := inR_head h hp
  have e1 : swB ws p v = true := by simp [swB, hr, -List.getD_eq_getElem?_getD, hv]
  have e2 : ldN c ws p = c + 1 := by rw [ldN, if_pos hr]
  simp only [mgo, mstep, if_pos hr, if_pos e1, swW, e2, if_true]

theorem mgo_2no {b : Bool} (h : Pl n ws) (hp : p = 0 ∨ p = 1) (hv : ¬ ws.getD p.toNat 0 = v) :
    mgo n 0 0 ⟨b, p, i, v, 2, u, 0⟩ ws c = (⟨b, p, i, v, 2, u, 3⟩, ws, c + 1) := by
  have hr := inR_head h hp
  have e1 : ¬ swB ws p v = true := by
    simp only [swB, hr, decide_true, Bool.true_and, beq_iff_eq]; exact hv
  have e2 : ldN c ws p = c + 1 := by rw [ldN, if_pos hr]
  simp only [mgo, mstep, if_pos hr, if_neg e1, e2, if_true]

theorem mgo_g0 {x y : Int} (h : Pl n ws) (hp : p = 0 ∨ p = 1) (hv : ws.getD p.toNat 0 = v) (h1 : 1 ≤ i) (h2 : i ≤ n) :
    mgo n 0 0 ⟨true, p, i, x, 0, y, 0⟩ ws c = (⟨true, p, i, v, 1, y, 0⟩, ws, c + 1) := by
  have hr := inR_head h hp
  have e : ldV ws p = v := by rw [ldV, if_pos hr, hv]
  have e2 : ldN c ws p = c + 1 := by rw [ldN, if_pos hr]
  have e3 : nextAt n 0 0 i = 2 * i := nextAt_pl h h1 h2
  have e5 : ¬ 2 * i < 0 := by omega
  simp only [mgo, mstep, e, e2, if_pos hr, e3, if_neg e5, if_true]

theorem mgo_g1 {y : Int} (h : Pl n ws) (h1 : 1 ≤ i) (h2 : i ≤ n) :
    mgo n 0 0 ⟨true, p, i, v, 1, y, 0⟩ ws c = (⟨true, p, i, v, 2, y, 0⟩, ws.set (2 * i).toNat (v % 4294967296), c + 1) := by
  have e3 : nextAt n 0 0 i = 2 * i := nextAt_pl h h1 h2
  have hr := inR_link h h1 h2
  have e2 : ldN c ws (2 * i) = c + 1 := by rw [ldN, if_pos hr]
  simp only [mgo, mstep, e3, if_pos hr, e2, stW, if_true]

theorem mgo_end {s h : Int} {m : Mch} (hst : ¬ m.st = 0) : mgo n s h m ws c = (m, ws, c) := by rw [mgo, if_neg hst]

/-! Words that are written. -/
theorem getD_set (ws : List Int) (j k : Nat) (x : Int) (hj : j < ws.length) : (ws.set j x).getD k 0 = if k = j then x else ws.getD k 0 := by
  rw [List.getD_eq_getElem?_getD, List.getD_eq_getElem?_getD, List.getElem?_set]
  by_cases h : j = k
  · subst h; rw [if_pos rfl, if_pos hj, if_pos rfl]; rfl
  · rw [if_neg h, if_neg (Ne.symm h)]

theorem words_set {ws : List Int} (hw : Words ws) (j : Nat) (x : Int) (h0 : 0 ≤ x) (h1 : x < 18446744073709551616) : Words (ws.set j x) := by
  intro k
  by_cases hj : j < ws.length
  · rw [getD_set _ _ _ _ hj]
    split
    · exact ⟨h0, h1⟩
    · exact hw k
  · rw [List.set_eq_of_length_le (by omega)]
    exact hw k

theorem Pl.set (h : Pl n ws) (j : Nat) (x : Int) (h0 : 0 ≤ x) (h1 : x < 18446744073709551616) : Pl n (ws.set j x) :=
  ⟨h.n1, h.n2, by rw [List.length_set]; exact h.len, words_set h.words j x h0 h1⟩

theorem nextWord_in (v i : Int) (h0 : 0 ≤ i) (h1 : i < 4294967296) : 0 ≤ nextWord v i ∧ nextWord v i < 18446744073709551616 := by
  unfold nextWord
  have := Int.emod_nonneg (v / 4294967296 + 1) (b := 4294967296) (by decide)
  have := Int.emod_lt_of_pos (v / 4294967296 + 1) (b := 4294967296) (by decide)
  omega
theorem nextWord_lo (v i : Int) (h0 : 0 ≤ i) (h1 : i < 4294967296) : nextWord v i % 4294967296 = i := by unfold nextWord; omega
theorem nextWord_hi (v i : Int) (h0 : 0 ≤ i) (h1 : i < 4294967296) : nextWord v i / 4294967296 = (v / 4294967296 + 1) % 4294967296 := by
  unfold nextWord
  have := Int.emod_nonneg (v / 4294967296 + 1) (b := 4294967296) (by decide)
  omega

/-! Chains. -/
/-- l are the nodes from index x on. -/
def IsCh (n : Int) (ws : List Int) : Int → List Int → Prop
  | x, [] => x = 0
  | x, i :: l => x = i ∧ 1 ≤ i ∧ i ≤ n ∧ IsCh n ws (ws.getD (2 * i).toNat 0 % 4294967296) l

theorem IsCh.go : ∀ (l : List Int) (f : Nat) (x : Int) (acc : List Int), IsCh n ws x l → (acc.length : Int) + l.length ≤ n → l.length < f → chainGo n ws f x acc = some (acc ++ l) := by
  intro l
  induction l with
  | nil =>
    intro f x acc h _ hf
    obtain ⟨f, rfl⟩ : ∃ f', f = f' + 1 := ⟨f - 1, by simp at hf; omega⟩
    have hx : x = 0 := h
    rw [chainGo, if_pos hx, List.append_nil]
  | cons i l ih =>
    intro f x acc h hl hf
    obtain ⟨f, rfl⟩ : ∃ f', f = f' + 1 := ⟨f - 1, by simp at hf; omega⟩
    obtain ⟨rfl, h1, h2, h3⟩ := h
    simp only [List.length_cons] at hl hf
    rw [chainGo, if_neg (by omega), if_neg (by omega), ih f _ _ h3 (by simp; omega) (by omega)]
    simp

theorem IsCh.chainL {l : List Int} {x : Int} (h : IsCh n ws (x % 4294967296) l) (hl : (l.length : Int) ≤ n) : chainL n ws x = some l := by
  have := IsCh.go l (n.toNat + 1) (x % 4294967296) [] h (by simpa using hl) (by omega)
  simpa [Go.Proofs.Ytfglpigoljclbaa.H.chainL] using this

theorem IsCh.keep {ws' : List Int} : ∀ (l : List Int) (x : Int), IsCh n ws x l → (∀ i, i ∈ l → ws'.getD (2 * i).toNat 0 = ws.getD (2 * i).toNat 0) → IsCh n ws' x l := by
  intro l
  induction l with
  | nil => intro x h _; exact h
  | cons i l ih =>
    intro x h hk
    obtain ⟨h0, h1, h2, h3⟩ := h
    exact ⟨h0, h1, h2, by rw [hk i (by simp)]; exact ih _ h3 (fun j hj => hk j (by simp [hj]))⟩

theorem IsCh.mem : ∀ (l : List Int) (x : Int), IsCh n ws x l → ∀ i ∈ l, 1 ≤ i ∧ i ≤ n := by
  intro l
  induction l with
  | nil => intro x _ i hi; cases hi
  | cons j l ih =>
    intro x h i hi
    obtain ⟨_, h1, h2, h3⟩ := h
    rcases List.mem_cons.1 hi with rfl | hi
    · exact ⟨h1, h2⟩
    · exact ih _ h3 i hi

theorem IsCh.zero {l : List Int} (h : IsCh n ws 0 l) : l = [] := by
  cases l with
  | nil => rfl
  | cons i l => obtain ⟨h0, h1, _⟩ := h; omega

theorem IsCh.cons {l : List Int} {x : Int} (h : IsCh n ws x l) (hx : ¬ x = 0) : ∃ l', l = x :: l' ∧ 1 ≤ x ∧ x ≤ n ∧ IsCh n ws (ws.getD (2 * x).toNat 0 % 4294967296) l' := by
  cases l with
  | nil => exact absurd h hx
  | cons i l => obtain ⟨rfl, h1, h2, h3⟩ := h; exact ⟨l, rfl, h1, h2, h3⟩
end Go.Proofs.Ytfglpigoljclbaa.H
