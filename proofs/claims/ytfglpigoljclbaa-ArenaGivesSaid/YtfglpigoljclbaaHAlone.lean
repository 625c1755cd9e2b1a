/- taglist, plain: a machine that goes alone ends by three steps; what the lists are behind it. -/
import Derived.Test.YtfglpigoljclbaaHMeet
set_option linter.unusedVariables false
set_option linter.unusedSimpArgs false
namespace Go.Proofs.Ytfglpigoljclbaa.H
open Go.RowKit

/-- Three steps, each one access, the last one Done, of node i. -/
def Three (n : Int) (m0 : Mch) (ws : List Int) (i : Int) (ws3 : List Int) : Prop :=
  ∃ m1 ws1 m2 ws2 m3, (∀ c, mgo n 0 0 m0 ws c = (m1, ws1, c + 1)) ∧ m1.st = 0 ∧ (∀ c, mgo n 0 0 m1 ws1 c = (m2, ws2, c + 1)) ∧ m2.st = 0 ∧ (∀ c, mgo n 0 0 m2 ws2 c = (m3, ws3, c + 1)) ∧ m3.st = 1 ∧ m3.i = i ∧
    m1.ok ∧ m2.ok ∧ Words ws1 ∧ Words ws2

variable {n t p i v : Int} {ws : List Int}

theorem ok_of {b : Bool} {p i w u st : Int} {pc : Nat} (h1 : 0 ≤ i) (h2 : i < 4294967296) (h3 : 0 ≤ w ∧ w < 18446744073709551616) (h4 : 0 ≤ u ∧ u < 18446744073709551616) : Mch.ok ⟨b, p, i, w, pc, u, st⟩ :=
  ⟨h1, h2, h3.1, h3.2, h4.1, h4.2⟩

theorem three_take (h : Pl n ws) (hp : p = 0 ∨ p = 1) (hv : ws.getD p.toNat 0 = v) (hi : v % 4294967296 = i) (h1 : 1 ≤ i) (h2 : i ≤ n) :
    Three n ⟨false, p, 0, 0, 0, 0, 0⟩ ws i (ws.set p.toNat (nextWord v (ws.getD (2 * i).toNat 0 % 4294967296))) := by
  have hv0 : 0 ≤ v ∧ v < 18446744073709551616 := by rw [← hv]; exact h.words _
  have := h.n2
  exact ⟨_, _, _, _, _, fun c => mgo_t0 h hp hv hi h1 h2, rfl, fun c => mgo_t1 h h1 h2 rfl, rfl, fun c => mgo_2yes h hp hv, rfl, rfl,
    ok_of (by omega) (by omega) hv0 (by omega), ok_of (by omega) (by omega) hv0 (h.words _), h.words, h.words⟩

theorem three_give (h : Pl n ws) (hp : p = 0 ∨ p = 1) (hv : ws.getD p.toNat 0 = v) (h1 : 1 ≤ i) (h2 : i ≤ n) :
    Three n ⟨true, p, i, 0, 0, 0, 0⟩ ws i ((ws.set (2 * i).toNat (v % 4294967296)).set p.toNat (nextWord v i)) := by
  have hl := h.len
  have h' := h.set (2 * i).toNat (v % 4294967296) (by omega) (by omega)
  have hv0 : 0 ≤ v ∧ v < 18446744073709551616 := by rw [← hv]; exact h.words _
  have := h.n2
  have hv' : (ws.set (2 * i).toNat (v % 4294967296)).getD p.toNat 0 = v := by rw [getD_set _ _ _ _ (by omega), if_neg (by omega)]; exact hv
  exact ⟨_, _, _, _, _, fun c => mgo_g0 h hp hv h1 h2, rfl, fun c => mgo_g1 h h1 h2, rfl, fun c => mgo_2yes h' hp hv', rfl, rfl,
    ok_of (by omega) (by omega) hv0 (by omega), ok_of (by omega) (by omega) hv0 (by omega), h.words, h'.words⟩

/-- The nodes from a on, k of them, upward; downward from k. -/
def upFrom (a : Int) : Nat → List Int
  | 0 => []
  | k + 1 => a :: upFrom (a + 1) k
def downFrom : Nat → List Int
  | 0 => []
  | k + 1 => ((k + 1 : Nat) : Int) :: downFrom k
theorem upFrom_len (a : Int) (k : Nat) : (upFrom a k).length = k := by
  induction k generalizing a with
  | zero => rfl
  | succ k ih => simp [upFrom, ih]
theorem downFrom_len (k : Nat) : (downFrom k).length = k := by
  induction k with
  | zero => rfl
  | succ k ih => simp [downFrom, ih]
theorem upFrom_ge (a : Int) (k : Nat) : ∀ x ∈ upFrom a k, a ≤ x := by
  induction k generalizing a with
  | zero => simp [upFrom]
  | succ k ih =>
    intro x hx
    rcases List.mem_cons.1 hx with rfl | hx
    · omega
    · have := ih _ x hx; omega
theorem downFrom_le (k : Nat) : ∀ x ∈ downFrom k, 1 ≤ x ∧ x ≤ k := by
  induction k with
  | zero => simp [downFrom]
  | succ k ih =>
    intro x hx
    rcases List.mem_cons.1 hx with rfl | hx
    · omega
    · have := ih x hx; omega

/-- Fresh words. -/
theorem fresh_pl (h1 : 1 ≤ n) (h2 : n ≤ 64) (t0 : 0 ≤ t) (t1 : t < 4294967296) : Pl n (freshL n 0 0 t) := by
  refine ⟨h1, h2, by rw [freshL, tab_len]; omega, fun j => ?_⟩
  by_cases hj : j < (2 + 2 * n + 0 + 0).toNat
  · rw [freshL, tab_get _ _ _ hj]
    unfold freshAt
    repeat' split
    all_goals omega
  · rw [List.getD_eq_getElem?_getD, List.getElem?_eq_none (by rw [freshL, tab_len]; omega)]
    simp

theorem fresh_0 (h1 : 1 ≤ n) : (freshL n 0 0 t).getD 0 0 = t * 4294967296 := by rw [freshL, tab_get _ _ _ (by omega)]; rfl
theorem fresh_1 (h1 : 1 ≤ n) : (freshL n 0 0 t).getD 1 0 = 1 + t * 4294967296 := by rw [freshL, tab_get _ _ _ (by omega)]; rfl
theorem fresh_link (h1 : 1 ≤ i) (h2 : i ≤ n) : (freshL n 0 0 t).getD (2 * i).toNat 0 = if i < n then i + 1 else 0 := by
  rw [freshL, tab_get _ _ _ (by omega)]
  unfold freshAt
  rw [if_neg (by omega), if_neg (by omega)]
  by_cases e : i < n
  · rw [if_pos (by omega), if_pos (by omega), if_pos e]; omega
  · rw [if_neg (by omega), if_pos (by omega), if_neg e]

theorem fresh_up (h2 : n ≤ 64) : ∀ (k : Nat) (a : Int), 1 ≤ a → a + k = n + 1 → IsCh n (freshL n 0 0 t) (if a ≤ n then a else 0) (upFrom a k) := by
  intro k
  induction k with
  | zero => intro a h1 h; rw [if_neg (by omega)]; rfl
  | succ k ih =>
    intro a h1 h
    rw [if_pos (by omega)]
    refine ⟨rfl, h1, by omega, ?_⟩
    rw [fresh_link h1 (by omega)]
    have := ih (a + 1) (by omega) (by omega)
    by_cases e : a < n
    · rw [if_pos e]; rw [if_pos (by omega)] at this
      rwa [show (a + 1) % 4294967296 = a + 1 by omega]
    · rw [if_neg e]; rw [if_neg (by omega)] at this
      exact this

theorem fresh_ch0 (h1 : 1 ≤ n) (t0 : 0 ≤ t) : IsCh n (freshL n 0 0 t) ((freshL n 0 0 t).getD 0 0 % 4294967296) [] := by
  rw [fresh_0 h1]; show _ = _; omega
theorem fresh_ch1 (h1 : 1 ≤ n) (h2 : n ≤ 64) (t0 : 0 ≤ t) : IsCh n (freshL n 0 0 t) ((freshL n 0 0 t).getD 1 0 % 4294967296) (upFrom 1 n.toNat) := by
  have := fresh_up (t := t) h2 n.toNat 1 (by omega) (by omega)
  rw [if_pos h1] at this
  rw [fresh_1 h1]
  rwa [show (1 + t * 4294967296) % 4294967296 = 1 by omega]

theorem count_up (x : Int) : ∀ (k : Nat) (a : Int), (upFrom a k).count x = if a ≤ x ∧ x < a + k then 1 else 0 := by
  intro k
  induction k with
  | zero => intro a; rw [if_neg (by omega)]; rfl
  | succ k ih =>
    intro a
    rw [upFrom, List.count_cons, ih]
    by_cases e : a = x
    · have e' : (a == x) = true := by simpa using e
      rw [e', if_pos rfl]
      split <;> split <;> omega
    · have e' : (a == x) = false := by simpa using e
      rw [e', if_neg Bool.false_ne_true]
      split <;> split <;> omega

/-- The state at the beginning. -/
theorem fresh_inv (h1 : 1 ≤ n) (h2 : n ≤ 64) (t0 : 0 ≤ t) (t1 : t < 4294967296) : MInv n t 0 (freshL n 0 0 t) (upd (upd (fun _ => []) 0 []) 1 (upFrom 1 n.toNat)) (fun _ => 0) (fun _ => []) (fun _ => none) := by
  refine ⟨fresh_pl h1 h2 t0 t1, fun p hp => ?_, fun p hp => ?_, fun _ _ => Nat.le_refl _, fun x => ?_, fun k m _ h => by cases h⟩
  · rcases two hp with rfl | rfl
    · exact fresh_ch0 h1 t0
    · exact fresh_ch1 h1 h2 t0
  · rcases two hp with rfl | rfl
    · rw [fresh_0 h1]; simp; omega
    · rw [fresh_1 h1]; simp; omega
  · unfold cntAll
    simp [upd, count_up]
    by_cases e : 1 ≤ x ∧ x ≤ n
    · rw [if_pos (by omega), if_pos e]
    · rw [if_neg (by omega), if_neg e]

/-- Law 7's TaglistAlone, ahead of round k: k nodes have gone from the one list to the other. -/
structure Al (n t : Int) (k : Nat) (ws : List Int) : Prop where
  pl : Pl n ws
  k1 : (k : Int) ≤ n
  ch0 : IsCh n ws (ws.getD 0 0 % 4294967296) (downFrom k)
  ch1 : IsCh n ws (ws.getD 1 0 % 4294967296) (upFrom (k + 1) (n.toNat - k))
  tag0 : ws.getD 0 0 / 4294967296 = (t + k) % 4294967296
  tag1 : ws.getD 1 0 / 4294967296 = (t + k) % 4294967296

theorem al_0 (h1 : 1 ≤ n) (h2 : n ≤ 64) (t0 : 0 ≤ t) (t1 : t < 4294967296) : Al n t 0 (freshL n 0 0 t) :=
  ⟨fresh_pl h1 h2 t0 t1, by omega, fresh_ch0 h1 t0, fresh_ch1 h1 h2 t0, by rw [fresh_0 h1]; omega, by rw [fresh_1 h1]; omega⟩

/-- A round: the node k + 1 is taken; then it is given. -/
theorem al_step {k : Nat} (h : Al n t k ws) (hk : (k : Int) < n) : ∃ ws1 ws2, Three n ⟨false, 1, 0, 0, 0, 0, 0⟩ ws (k + 1) ws1 ∧ Pl n ws1 ∧
    chainL n ws1 (ws1.getD 1 0) = some (upFrom (k + 2) (n.toNat - (k + 1))) ∧ Three n ⟨true, 0, (k + 1 : Nat), 0, 0, 0, 0⟩ ws1 (k + 1 : Nat) ws2 ∧ Al n t (k + 1) ws2 ∧ chainL n ws2 (ws2.getD 0 0) = some (downFrom (k + 1)) := by
  obtain ⟨pl, k1, c0, c1, t0, t1⟩ := h
  have n2 := pl.n2
  have n1 := pl.n1
  have hl := pl.len
  rw [show n.toNat - k = (n.toNat - (k + 1)) + 1 by omega] at c1
  obtain ⟨e1, a1, a2, c1'⟩ := c1
  obtain ⟨u, hu⟩ : ∃ u, u = ws.getD (2 * ((k : Int) + 1)).toNat 0 % 4294967296 := ⟨_, rfl⟩
  have hu0 : 0 ≤ u ∧ u < 4294967296 := by omega
  rw [← hu] at c1'
  have T1 := three_take pl (.inr rfl) rfl e1 a1 a2
  rw [show (1 : Int).toNat = 1 from rfl, ← hu] at T1
  obtain ⟨b0, b1⟩ := nextWord_in (ws.getD 1 0) u hu0.1 hu0.2
  have P1 := pl.set 1 (nextWord (ws.getD 1 0) u) b0 b1
  have g1 : ∀ j, (ws.set 1 (nextWord (ws.getD 1 0) u)).getD j 0 = if j = 1 then nextWord (ws.getD 1 0) u else ws.getD j 0 := fun j => getD_set _ _ _ _ (by omega)
  generalize hws1 : ws.set 1 (nextWord (ws.getD 1 0) u) = ws1 at T1 P1 g1
  have C1 : IsCh n ws1 u (upFrom (k + 2) (n.toNat - (k + 1))) := by
    rw [show (k : Int) + 2 = k + 1 + 1 by omega]
    exact c1'.keep _ _ (fun y hy => by have := c1'.mem _ _ y hy; rw [g1, if_neg (by omega)])
  have C1' : IsCh n ws1 (ws1.getD 1 0 % 4294967296) (upFrom (k + 2) (n.toNat - (k + 1))) := by
    rw [g1, if_pos rfl, nextWord_lo _ _ hu0.1 hu0.2]; exact C1
  have C0 : IsCh n ws1 (ws.getD 0 0 % 4294967296) (downFrom k) :=
    c0.keep _ _ (fun y hy => by have := c0.mem _ _ y hy; rw [g1, if_neg (by omega)])
  have w10 : ws1.getD 0 0 = ws.getD 0 0 := by rw [g1, if_neg (by omega)]
  have hl1 := P1.len
  have w0 := P1.words 0
  have T2 := three_give (i := ((k + 1 : Nat) : Int)) P1 (p := 0) (.inl rfl) rfl (by omega) (by omega)
  rw [show (0 : Int).toNat = 0 from rfl] at T2
  have P2 := P1.set (2 * ((k + 1 : Nat) : Int)).toNat (ws1.getD 0 0 % 4294967296) (by omega) (by omega)
  obtain ⟨d0, d1⟩ := nextWord_in (ws1.getD 0 0) ((k + 1 : Nat) : Int) (by omega) (by omega)
  have P3 := P2.set 0 (nextWord (ws1.getD 0 0) ((k + 1 : Nat) : Int)) d0 d1
  have g2 : ∀ j, ((ws1.set (2 * ((k + 1 : Nat) : Int)).toNat (ws1.getD 0 0 % 4294967296)).set 0 (nextWord (ws1.getD 0 0) ((k + 1 : Nat) : Int))).getD j 0 =
      if j = 0 then nextWord (ws1.getD 0 0) ((k + 1 : Nat) : Int) else if j = (2 * ((k + 1 : Nat) : Int)).toNat then ws1.getD 0 0 % 4294967296 else ws1.getD j 0 := fun j => by
    rw [getD_set _ _ _ _ (by rw [List.length_set]; omega)]
    split
    · rfl
    · exact getD_set _ _ _ _ (by omega)
  generalize (ws1.set (2 * ((k + 1 : Nat) : Int)).toNat (ws1.getD 0 0 % 4294967296)).set 0 (nextWord (ws1.getD 0 0) ((k + 1 : Nat) : Int)) = ws2 at T2 P3 g2
  have gl : ws2.getD (2 * ((k + 1 : Nat) : Int)).toNat 0 = ws1.getD 0 0 % 4294967296 := by rw [g2, if_neg (by omega), if_pos rfl]
  have D0 : IsCh n ws2 (ws2.getD 0 0 % 4294967296) (downFrom (k + 1)) := by
    rw [g2, if_pos rfl, nextWord_lo _ _ (by omega) (by omega)]
    refine ⟨rfl, by omega, by omega, ?_⟩
    rw [gl, w10, show ws.getD 0 0 % 4294967296 % 4294967296 = ws.getD 0 0 % 4294967296 by omega]
    exact C0.keep _ _ (fun y hy => by have := downFrom_le k y hy; rw [g2, if_neg (by omega), if_neg (by omega)])
  have D1 : IsCh n ws2 (ws2.getD 1 0 % 4294967296) (upFrom (k + 2) (n.toNat - (k + 1))) := by
    rw [g2, if_neg (by omega), if_neg (by omega)]
    exact C1'.keep _ _ (fun y hy => by have := upFrom_ge _ _ y hy; rw [g2, if_neg (by omega), if_neg (by omega)])
  refine ⟨ws1, ws2, T1, P1, C1'.chainL (by rw [upFrom_len]; omega), T2, ⟨P3, by omega, D0, ?_, ?_, ?_⟩, D0.chainL (by rw [downFrom_len]; omega)⟩
  · rw [show (((k + 1 : Nat) : Int) + 1) = (k : Int) + 2 by omega]; exact D1
  · rw [g2, if_pos rfl, nextWord_hi _ _ (by omega) (by omega), w10, t0]
    omega
  · rw [g2, if_neg (by omega), if_neg (by omega), g1, if_pos rfl, nextWord_hi _ _ hu0.1 hu0.2, t1]
    omega

/-- Law 7's TaglistLate: between the steps of another one a node is taken, and given back: the tag is two more. -/
theorem between_step {x : Int} (h : Pl n ws) (hx : ws.getD 1 0 % 4294967296 = x) (h1 : 1 ≤ x) (h2 : x ≤ n) : ∃ ws1 ws2, Three n ⟨false, 1, 0, 0, 0, 0, 0⟩ ws x ws1 ∧ Three n ⟨true, 1, x, 0, 0, 0, 0⟩ ws1 x ws2 ∧ Pl n ws2 ∧ ws2.getD 1 0 % 4294967296 = x ∧ ws2.getD 1 0 / 4294967296 = (ws.getD 1 0 / 4294967296 + 2) % 4294967296 := by
  have n2 := h.n2
  have hl := h.len
  have T1 := three_take h (.inr rfl) rfl hx h1 h2
  rw [show (1 : Int).toNat = 1 from rfl] at T1
  obtain ⟨u, hu⟩ : ∃ u, u = ws.getD (2 * x).toNat 0 % 4294967296 := ⟨_, rfl⟩
  have hu0 : 0 ≤ u ∧ u < 4294967296 := by omega
  rw [← hu] at T1
  obtain ⟨b0, b1⟩ := nextWord_in (ws.getD 1 0) u hu0.1 hu0.2
  have P1 := h.set 1 (nextWord (ws.getD 1 0) u) b0 b1
  have g1 : (ws.set 1 (nextWord (ws.getD 1 0) u)).getD 1 0 = nextWord (ws.getD 1 0) u := by rw [getD_set _ _ _ _ (by omega), if_pos rfl]
  have hi1 := nextWord_hi (ws.getD 1 0) u hu0.1 hu0.2
  generalize ws.set 1 (nextWord (ws.getD 1 0) u) = ws1 at T1 P1 g1
  have hl1 := P1.len
  have T2 := three_give (i := x) P1 (p := 1) (.inr rfl) rfl h1 h2
  rw [show (1 : Int).toNat = 1 from rfl] at T2
  have w1 := P1.words 1
  have P2 := P1.set (2 * x).toNat (ws1.getD 1 0 % 4294967296) (by omega) (by omega)
  obtain ⟨d0, d1⟩ := nextWord_in (ws1.getD 1 0) x (by omega) (by omega)
  have P3 := P2.set 1 (nextWord (ws1.getD 1 0) x) d0 d1
  refine ⟨ws1, _, T1, T2, P3, ?_, ?_⟩
  · rw [getD_set _ _ _ _ (by rw [List.length_set]; omega), if_pos rfl, nextWord_lo _ _ (by omega) (by omega)]
  · rw [getD_set _ _ _ _ (by rw [List.length_set]; omega), if_pos rfl, nextWord_hi _ _ (by omega) (by omega), g1, hi1]
    omega
end Go.Proofs.Ytfglpigoljclbaa.H
