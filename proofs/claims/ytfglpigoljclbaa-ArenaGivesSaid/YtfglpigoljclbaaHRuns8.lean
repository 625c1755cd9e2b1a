/- Law 8's plain laws: runs of machines of tries; nodes taken in order, and given back. -/
import Derived.Test.YtfglpigoljclbaaHEnds8
set_option linter.unusedVariables false
set_option linter.unusedSimpArgs false
namespace Go.Proofs.Ytfglpigoljclbaa.H
open Go.RowKit
variable {n t p i v : Int} {ws : List Int} {c : Nat}

/-- A step of a machine with nothing on its shelf, whose try is known and is not Contended. -/
theorem astep_of {A : Arn} {ws' : List Int} {c' : Nat} {m m' : Mch} (hst : A.st = 0) (hs : A.shelf = []) (hm : A.now.getD A.fresh = m) (hg : mgo n 0 0 m ws c = (m', ws', c')) (h3 : ¬ m'.st = 3) (h6 : ¬ m'.st = 6) :
    astep n 0 0 A ws c = ({ A with now := some m', st := m'.st, i := m'.told }, ws', c') := by
  have e : ago n 0 0 A ws c = ({ A with now := some m', st := m'.st, i := m'.told }, ws', c') := by
    unfold ago
    rw [if_pos hst, hm, hg]
    simp only
    rw [if_neg h3]
  unfold astep
  rw [e, hs]
  split
  · simp only; rw [if_neg h6]
  · simp

/-- A run of a try is a run of the machine. -/
theorem RunN.arn {st : Int} {N : Nat} {ms : Nat → Mch} {wss : Nat → List Int} (h : RunN n N ms wss st i) (hN : 0 < N) (A : Arn) (h0 : ms 0 = A.fresh) (hn : A.now = none) (hs : A.shelf = []) (hst : A.st = 0) (h3 : ¬ st = 3) (h6 : ¬ st = 6) :
    ∃ qs : Nat → Arn, qs 0 = A ∧ RunA n N qs wss st i := by
  refine ⟨fun j => match j with | 0 => A | j + 1 => { A with now := some (ms (j + 1)), st := (ms (j + 1)).st, i := (ms (j + 1)).told }, rfl, ⟨fun j hj c => ?_, fun j hj => ?_, ?_, ?_, h.words, fun j hj => ?_⟩⟩
  · have hx : (ms (j + 1)).st = 0 ∨ (ms (j + 1)).st = st := by
      by_cases hl : j + 1 < N
      · exact .inl (h.runs _ hl)
      · exact .inr (by rw [show j + 1 = N by omega]; exact h.last)
    have k3 : ¬ (ms (j + 1)).st = 3 := by omega
    have k6 : ¬ (ms (j + 1)).st = 6 := by omega
    match j with
    | 0 => exact astep_of hst hs (by rw [hn]; exact h0.symm) (h.go 0 hj c) k3 k6
    | j + 1 => exact astep_of (h.runs _ hj) hs rfl (h.go (j + 1) hj c) k3 k6
  · match j with
    | 0 => exact hst
    | j + 1 => exact h.runs _ hj
  · match N, hN with
    | N + 1, _ => exact h.last
  · match N, hN with
    | N + 1, _ => exact h.told
  · match j with
    | 0 => exact hs
    | j + 1 => exact hs

theorem Three.arn {ws3 : List Int} (A : Arn) (h : Three n A.fresh ws i ws3) (h0 : A.fresh.st = 0) (hw : Words ws) (hw3 : Words ws3) (hn : A.now = none) (hs : A.shelf = []) (hst : A.st = 0) :
    ∃ qs wss, qs 0 = A ∧ RunA n 3 qs wss 1 i ∧ wss 0 = ws ∧ wss 3 = ws3 := by
  obtain ⟨ms, wss, h1, h2, h3, h4⟩ := h.run h0 hw hw3
  obtain ⟨qs, h5, h6⟩ := h1.arn (by omega) A h2 hn hs hst (by omega) (by omega)
  exact ⟨qs, wss, h5, h6, h3, h4⟩

/-- The free list. -/
structure Fre (n : Int) (l : List Int) (ws : List Int) : Prop where
  pl : Pl n ws
  ch : IsCh n ws (ws.getD 1 0 % 4294967296) l

theorem Fre.none (h : Fre n [] ws) (A : Arn) (hg : A.give = false) (hn : A.now = none) (hs : A.shelf = []) (hst : A.st = 0) :
    ∃ qs wss, qs 0 = A ∧ RunA n 1 qs wss 2 0 ∧ wss 0 = ws ∧ wss 1 = ws := by
  have hf : A.fresh = ⟨false, 1, 0, 0, 0, 0, 0⟩ := by unfold Arn.fresh; rw [if_neg (by rw [hg]; decide)]
  have hR : RunN n 1 (fun j => match j with | 0 => A.fresh | _ => ⟨false, 1, 0, ws.getD 1 0, 0, 0, 2⟩) (fun _ => ws) 2 0 := by
    refine ⟨fun j hj c => ?_, fun j hj => ?_, rfl, told_not (by show ¬ (2 : Int) = 1; omega), fun _ _ => h.pl.words⟩
    · obtain rfl : j = 0 := by omega
      show mgo n 0 0 A.fresh ws c = _
      rw [hf]
      exact mgo_t0_none h.pl (.inr rfl) rfl h.ch
    · obtain rfl : j = 0 := by omega
      show A.fresh.st = 0
      rw [hf]
  obtain ⟨qs, h1, h2⟩ := hR.arn (by omega) A rfl hn hs hst (by omega) (by omega)
  exact ⟨qs, _, h1, h2, rfl, rfl⟩

theorem Fre.take {l : List Int} {x : Int} (h : Fre n (x :: l) ws) (hx : ∀ y ∈ l, x ≠ y) (A : Arn) (hg : A.give = false) (hn : A.now = Option.none) (hs : A.shelf = []) (hst : A.st = 0) :
    ∃ qs wss ws1, qs 0 = A ∧ RunA n 3 qs wss 1 x ∧ wss 0 = ws ∧ wss 3 = ws1 ∧ Fre n l ws1 := by
  obtain ⟨pl, e1, a1, a2, c1⟩ := h
  have n2 := pl.n2
  have hl := pl.len
  have hf : A.fresh = ⟨false, 1, 0, 0, 0, 0, 0⟩ := by unfold Arn.fresh; rw [if_neg (by rw [hg]; decide)]
  obtain ⟨u, hu⟩ : ∃ u, u = ws.getD (2 * x).toNat 0 % 4294967296 := ⟨_, rfl⟩
  have hu0 : 0 ≤ u ∧ u < 4294967296 := by omega
  rw [← hu] at c1
  have T1 := three_take pl (.inr rfl) rfl e1 a1 a2
  rw [show (1 : Int).toNat = 1 from rfl, ← hu] at T1
  obtain ⟨b0, b1⟩ := nextWord_in (ws.getD 1 0) u hu0.1 hu0.2
  have P1 := pl.set 1 (nextWord (ws.getD 1 0) u) b0 b1
  have g1 : ∀ j, (ws.set 1 (nextWord (ws.getD 1 0) u)).getD j 0 = if j = 1 then nextWord (ws.getD 1 0) u else ws.getD j 0 := fun j => getD_set _ _ _ _ (by omega)
  obtain ⟨qs, wss, h1, h2, h3, h4⟩ := Three.arn A (by rw [hf]; exact T1) (by rw [hf]) pl.words P1.words hn hs hst
  refine ⟨qs, wss, _, h1, h2, h3, h4, P1, ?_⟩
  rw [g1, if_pos rfl, nextWord_lo _ _ hu0.1 hu0.2]
  exact c1.keep _ _ (fun y hy => by have := c1.mem _ _ y hy; rw [g1, if_neg (by omega)])

theorem Fre.give {l : List Int} {x : Int} (h : Fre n l ws) (hx : ∀ y ∈ l, x ≠ y) (x1 : 1 ≤ x) (x2 : x ≤ n) (A : Arn) (hg : A.give = true) (hnode : A.node = x) (hn : A.now = Option.none) (hs : A.shelf = []) (hst : A.st = 0) :
    ∃ qs wss ws1, qs 0 = A ∧ RunA n 3 qs wss 1 x ∧ wss 0 = ws ∧ wss 3 = ws1 ∧ Fre n (x :: l) ws1 := by
  obtain ⟨pl, c1⟩ := h
  have n2 := pl.n2
  have hl := pl.len
  have hf : A.fresh = ⟨true, 1, x, 0, 0, 0, 0⟩ := by unfold Arn.fresh; rw [if_pos hg, hnode]
  have T2 := three_give (i := x) pl (p := 1) (.inr rfl) rfl x1 x2
  rw [show (1 : Int).toNat = 1 from rfl] at T2
  have w1 := pl.words 1
  have P2 := pl.set (2 * x).toNat (ws.getD 1 0 % 4294967296) (by omega) (by omega)
  obtain ⟨d0, d1⟩ := nextWord_in (ws.getD 1 0) x (by omega) (by omega)
  have P3 := P2.set 1 (nextWord (ws.getD 1 0) x) d0 d1
  have g2 : ∀ j, ((ws.set (2 * x).toNat (ws.getD 1 0 % 4294967296)).set 1 (nextWord (ws.getD 1 0) x)).getD j 0 =
      if j = 1 then nextWord (ws.getD 1 0) x else if j = (2 * x).toNat then ws.getD 1 0 % 4294967296 else ws.getD j 0 := fun j => by
    rw [getD_set _ _ _ _ (by rw [List.length_set]; omega)]
    split
    · rfl
    · exact getD_set _ _ _ _ (by omega)
  obtain ⟨qs, wss, h1, h2, h3, h4⟩ := Three.arn A (by rw [hf]; exact T2) (by rw [hf]) pl.words P3.words hn hs hst
  generalize (ws.set (2 * x).toNat (ws.getD 1 0 % 4294967296)).set 1 (nextWord (ws.getD 1 0) x) = ws2 at *
  refine ⟨qs, wss, _, h1, h2, h3, h4, P3, ?_⟩
  rw [g2, if_pos rfl, nextWord_lo _ _ (by omega) (by omega)]
  refine ⟨rfl, x1, x2, ?_⟩
  rw [g2, if_neg (by omega), if_pos rfl, show ws.getD 1 0 % 4294967296 % 4294967296 = ws.getD 1 0 % 4294967296 by omega]
  exact c1.keep _ _ (fun y hy => by have := hx y hy; have := c1.mem _ _ y hy; rw [g2, if_neg (by omega), if_neg (by omega)])

theorem Fre.chain {l : List Int} (h : Fre n l ws) (hl : (l.length : Int) ≤ n) : chainL n ws (ws.getD 1 0) = some l := h.ch.chainL hl
theorem fre_0 (h1 : 1 ≤ n) (h2 : n ≤ 64) (t0 : 0 ≤ t) (t1 : t < 4294967296) : Fre n (upFrom 1 n.toNat) (freshL n 0 0 t) := ⟨fresh_pl h1 h2 t0 t1, fresh_ch1 h1 h2 t0⟩

/-- Taken so far: k of them. -/
theorem Fre.up {k : Nat} (h : Fre n (upFrom (k + 1) (n.toNat - k)) ws) (hk : (k : Int) < n) (A : Arn) (hg : A.give = false) (hn : A.now = Option.none) (hs : A.shelf = []) (hst : A.st = 0) :
    ∃ qs wss ws1, qs 0 = A ∧ RunA n 3 qs wss 1 (k + 1) ∧ wss 0 = ws ∧ wss 3 = ws1 ∧ Fre n (upFrom ((k + 1 : Nat) + 1) (n.toNat - (k + 1))) ws1 := by
  rw [show n.toNat - k = (n.toNat - (k + 1)) + 1 by omega] at h
  have h' : Fre n (((k : Int) + 1) :: upFrom ((k : Int) + 1 + 1) (n.toNat - (k + 1))) ws := h
  obtain ⟨qs, wss, ws1, r1, r2, r3, r4, r5⟩ := h'.take (fun y hy => by have := upFrom_ge _ _ y hy; omega) A hg hn hs hst
  exact ⟨qs, wss, ws1, r1, r2, r3, r4, by rw [show ((k + 1 : Nat) : Int) = (k : Int) + 1 by omega]; exact r5⟩

theorem Fre.down {k : Nat} (h : Fre n (downFrom k) ws) (hk : (k : Int) < n) (A : Arn) (hg : A.give = true) (hnode : A.node = (k : Int) + 1) (hn : A.now = Option.none) (hs : A.shelf = []) (hst : A.st = 0) :
    ∃ qs wss ws1, qs 0 = A ∧ RunA n 3 qs wss 1 (k + 1) ∧ wss 0 = ws ∧ wss 3 = ws1 ∧ Fre n (downFrom (k + 1)) ws1 := by
  obtain ⟨qs, wss, ws1, r1, r2, r3, r4, r5⟩ := h.give (x := (k : Int) + 1) (fun y hy => by have := downFrom_le k y hy; omega) (by omega) (by omega) A hg hnode hn hs hst
  exact ⟨qs, wss, ws1, r1, r2, r3, r4, r5⟩
end Go.Proofs.Ytfglpigoljclbaa.H
