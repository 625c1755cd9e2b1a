/- Law 7's TaglistSteps: its state: some pairs, a memory, and the document's memory. -/
import Derived.Test.YtfglpigoljclbaaHMade7
import Derived.Test.YtfglpigoljclbaaHMeetS
set_option linter.unusedVariables false
set_option linter.unusedSimpArgs false
namespace Go.Proofs.Ytfglpigoljclbaa.H
open Go.RowKit
variable {w w' a b wr w1 w2 : World} {S T : Nat → Prop} {g gm gB gr k c c' kM kX j J r : Nat} {ws ws' : List Int} {m m' : Mch} {n s h t : Int} {L L' L1 : Nat → Nat} {vt vg v14 : Value}

theorem mgo_words {n s h : Int} {m : Mch} {ws : List Int} {k : Nat} (hw : Words ws) (ho : m.ok) : Words (mgo n s h m ws k).2.1 := by
  obtain ⟨k0, k1, k2, k3, k4, k5⟩ := ho
  have hst : ∀ i x : Int, 0 ≤ x → x < 18446744073709551616 → Words (stW ws i x) := fun i x h0 h1 => by
    unfold stW; split
    · exact words_set hw _ _ h0 h1
    · exact hw
  have hsw : ∀ i o x : Int, 0 ≤ x → x < 18446744073709551616 → Words (swW ws i o x) := fun i o x h0 h1 => by
    unfold swW; split
    · exact words_set hw _ _ h0 h1
    · exact hw
  have hf : 0 ≤ m.first ∧ m.first < 4294967296 := by unfold Mch.first; split <;> omega
  have hn := nextWord_in m.w m.first hf.1 hf.2
  unfold mgo mstep
  simp only
  repeat' split
  all_goals first | exact hw | exact hst _ _ (by omega) (by omega) | exact hsw _ _ _ hn.1 hn.2
theorem mgo_count (n s h : Int) (m : Mch) (ws : List Int) (k : Nat) : (mgo n s h m ws k).2.2 ≤ k + 1 := by
  have hl : ∀ i, ldN k ws i ≤ k + 1 := fun i => by unfold ldN; split <;> omega
  unfold mgo mstep
  simp only
  repeat' split
  all_goals first | exact hl _ | exact Nat.le_succ _

/-- The pairs' cells. -/
def flat (J : Nat) (ps : Nat → Value × Value × Nat) : List Value := (List.range J).flatMap fun j => [(ps j).1, (ps j).2.1, .pointer (some ⟨(ps j).2.2, 0, none⟩)]
theorem flat_len (J : Nat) (ps : Nat → Value × Value × Nat) : (flat J ps).length = J * 3 := by
  induction J with
  | zero => rfl
  | succ J ih =>
    unfold flat at ih ⊢
    rw [List.range_succ, List.flatMap_append, List.length_append, ih]
    simp
    omega
theorem flat_succ (J : Nat) (ps : Nat → Value × Value × Nat) : flat (J + 1) ps = flat J ps ++ [(ps J).1, (ps J).2.1, .pointer (some ⟨(ps J).2.2, 0, none⟩)] := by
  unfold flat
  rw [List.range_succ, List.flatMap_append]
  simp
theorem flat_congr {J : Nat} {ps qs : Nat → Value × Value × Nat} (h : ∀ j, j < J → ps j = qs j) : flat J ps = flat J qs := by
  induction J with
  | zero => rfl
  | succ J ih => rw [flat_succ, flat_succ, ih (fun j hj => h j (by omega)), h J (by omega)]
theorem flat_get (ps : Nat → Value × Value × Nat) (hj : j < J) : (flat J ps)[j * 3]? = some (ps j).1 ∧ (flat J ps)[j * 3 + 1]? = some (ps j).2.1 ∧ (flat J ps)[j * 3 + 2]? = some (.pointer (some ⟨(ps j).2.2, 0, none⟩)) := by
  induction J with
  | zero => omega
  | succ J ih =>
    rw [flat_succ]
    by_cases e : j = J
    · subst e
      refine ⟨?_, ?_, ?_⟩
      · rw [List.getElem?_append_right (by rw [flat_len]; omega), flat_len, show j * 3 - j * 3 = 0 by omega]; rfl
      · rw [List.getElem?_append_right (by rw [flat_len]; omega), flat_len, show j * 3 + 1 - j * 3 = 1 by omega]; rfl
      · rw [List.getElem?_append_right (by rw [flat_len]; omega), flat_len, show j * 3 + 2 - j * 3 = 2 by omega]; rfl
    · obtain ⟨h1, h2, h3⟩ := ih (by omega)
      refine ⟨?_, ?_, ?_⟩
      · rw [List.getElem?_append_left (by rw [flat_len]; omega)]; exact h1
      · rw [List.getElem?_append_left (by rw [flat_len]; omega)]; exact h2
      · rw [List.getElem?_append_left (by rw [flat_len]; omega)]; exact h3

/-- A pair and the two machines that it leads to. -/
def StSlot (wr : World) (L : Nat → Nat) (n s h t : Int) (j : Nat) (p : Value × Value × Nat) (m : Mch) : Prop :=
  ∃ g, PairOf m g p.1 p.2.1 ∧ (m.give = true → p.1 = .pointer none) ∧ MchAt wr (Lab L wr (3 + 2 * j)) g n s h t m ∧ RchAt wr (Lab L wr (4 + 2 * j)) p.2.2 n s h t m

theorem StSlot.lab {p : Value × Value × Nat} {q : Nat → Prop} (H : StSlot wr L n s h t j p m) (hf : FrL L q wr w') (he : Ext L L' wr) (h3 : ¬ q (3 + 2 * j)) (h4 : ¬ q (4 + 2 * j)) : StSlot w' L' n s h t j p m := by
  obtain ⟨g, a, b, c, d⟩ := H
  exact ⟨g, a, b, c.lab hf he h3, d.lab hf he h4⟩

/-- The law's state. -/
structure StepsSt (w wr : World) (L : Nat → Nat) (gB gm gr : Nat) (n s h t : Int) (v14 : Value) (J : Nat) (ps : Nat → Value × Value × Nat) (ms : Nat → Mch) (ws : List Int) (c : Nat) : Prop where
  fr : Fr No w wr
  old : Old L w
  cfg : Blk wr gB #[.int .i64 n, .int .i64 s, .int .i64 h, .int .u32 t] 25
  lab : L gB = 0
  mem : MemAt wr (Lab L wr 1) gm ws c
  ref : RefAt wr (Lab L wr 2) gr ws c
  words : Words ws
  pairs : Own wr (Free0 L w wr) 62 3 v14 J (flat J ps)
  slot : ∀ j, j < J → StSlot wr L n s h t j (ps j) (ms j)

variable {ps : Nat → Value × Value × Nat} {ms : Nat → Mch}

/-- Behind a frame that writes none of it. -/
theorem StepsSt.keep {q : Nat → Prop} (H : StepsSt w wr L gB gm gr n s h t v14 J ps ms ws c) (hf2 : Fr No w w') (hf : FrL L q wr w') (he : Ext L L' wr) (hq : ∀ k, ¬ q k) : StepsSt w w' L' gB gm gr n s h t v14 J ps ms ws c :=
  ⟨hf2, H.old.ext he H.fr.size, Fr.keep hf H.cfg (hq _), (he gB H.cfg.lt).trans H.lab, H.mem.lab hf he (hq _), H.ref.lab hf he (hq _), H.words, H.pairs.lab0 hf he (hq _), fun j hj => (H.slot j hj).lab hf he (hq _) (hq _)⟩

theorem StepsSt.no (H : StepsSt w wr L gB gm gr n s h t v14 J ps ms ws c) (hf : Fr No wr w') : StepsSt w w' L gB gm gr n s h t v14 J ps ms ws c :=
  H.keep (q := fun _ => False) (H.fr.then hf) (FrL.ofNo hf) (Ext.refl _ _) (fun _ h => h)
theorem StepsSt.relab (H : StepsSt w wr L gB gm gr n s h t v14 J ps ms ws c) (hf : Fr No wr w') (k : Nat) : StepsSt w w' (re L wr k) gB gm gr n s h t v14 J ps ms ws c :=
  H.keep (q := fun _ => False) (H.fr.then hf) (FrL.ofNo hf) (ext_re L wr k) (fun _ h => h)

/-- New machines were made. -/
theorem StepsSt.made (H : StepsSt w wr L gB gm gr n s h t v14 J ps ms ws c) (hf : Fr No wr w') (hg : wr.heap.size ≤ g) (hr : wr.heap.size ≤ r) (hX : MchAt w' (fun i => i = g) g n s h t m) (hR : RchAt w' (fun i => i = r) r n s h t m) :
    ∃ L', Ext L L' wr ∧ StepsSt w w' L' gB gm gr n s h t v14 J ps ms ws c ∧ MchAt w' (Lab L' w' (3 + 2 * J)) g n s h t m ∧ RchAt w' (Lab L' w' (4 + 2 * J)) r n s h t m ∧ (∀ i, wr.heap.size ≤ i → i ≠ g → i ≠ r → L' i = 0) := by
  have hne : r ≠ g := by
    obtain ⟨_, _, f, hB, _⟩ := hX
    obtain ⟨_, _, i, pc, wv, nx, hB2, _⟩ := hR
    exact blk_ne hB2 hB (by unfold mty; split <;> decide)
  obtain ⟨L', hL'⟩ : ∃ L' : Nat → Nat, L' = fun i => if i < wr.heap.size then L i else if i = g then 3 + 2 * J else if i = r then 4 + 2 * J else 0 := ⟨_, rfl⟩
  have he : Ext L L' wr := fun i hi => by rw [hL']; simp only; rw [if_pos hi]
  have e1 : L' g = 3 + 2 * J := by rw [hL']; simp only; rw [if_neg (by omega), if_pos trivial]
  have e2 : L' r = 4 + 2 * J := by rw [hL']; simp only; rw [if_neg (by omega), if_neg hne, if_pos trivial]
  refine ⟨L', he, H.keep (q := fun _ => False) (H.fr.then hf) (FrL.ofNo hf) he (fun _ h => h), hX.wide (fun i hi hl => ⟨by rw [hi]; exact e1, hl⟩), ?_, fun i h1 h2 h3 => by rw [hL']; simp only; rw [if_neg (by omega), if_neg h2, if_neg h3]⟩
  obtain ⟨_, h2, i, pc, wv, nx, hB, h4⟩ := hR
  exact ⟨⟨e2, hB.lt⟩, h2, i, pc, wv, nx, hB, h4⟩

/-- A pair more. -/
theorem StepsSt.more {w6 : World} {g' cap : Nat} (H : StepsSt w wr L gB gm gr n s h t v14 J ps ms ws c) (hp : PairOf m g vt vg) (hvt : m.give = true → vt = .pointer none) (hX : MchAt wr (Lab L wr (3 + 2 * J)) g n s h t m) (hR : RchAt wr (Lab L wr (4 + 2 * J)) r n s h t m)
    (hO : Own w6 (Gr (Free0 L w wr) wr) 62 3 (.slice (some ⟨g', 0, none⟩) (J + 1) cap) (J + 1) (flat J ps ++ [vt, vg, .pointer (some ⟨r, 0, none⟩)])) (hf : Fr (Row v14) wr w6) :
    ∃ L', StepsSt w w6 L' gB gm gr n s h t (.slice (some ⟨g', 0, none⟩) (J + 1) cap) (J + 1) (upd ps J (vt, vg, r)) (upd ms J m) ws c := by
  have hfL : FrL L (fun k => k = 0) wr w6 := Fr.mono hf fun i _ hi => (H.pairs.2 i hi).1
  have he := ext_re L wr 0
  have hf2 : Fr No w w6 := H.fr.trans hf fun i hi h => by have := (H.pairs.2 i h).2.1; omega
  have hs := hf.size
  refine ⟨re L wr 0, ⟨hf2, H.old.ext he H.fr.size, hf.keep H.cfg (H.pairs.ne H.cfg (by decide)), (he gB H.cfg.lt).trans H.lab, H.mem.lab hfL he (by decide), H.ref.lab hfL he (by decide), H.words, ?_, fun j hj => ?_⟩⟩
  · rw [flat_succ, upd_same, flat_congr (ps := upd ps J (vt, vg, r)) (qs := ps) (fun j hj => upd_ne _ _ (by omega))]
    refine hO.wide fun i hi hl => ?_
    rcases hi with ⟨h1, h2, h3⟩ | hi
    · exact ⟨(he i h3).trans h1, h2, hl⟩
    · exact ⟨by rw [re, if_neg (by omega)], by have := H.fr.size; omega, hl⟩
  · by_cases e : j = J
    · subst e
      rw [upd_same, upd_same]
      exact ⟨g, hp, hvt, hX.lab hfL he (by omega), hR.lab hfL he (by omega)⟩
    · rw [upd_ne _ _ e, upd_ne _ _ e]
      exact (H.slot j (by omega)).lab hfL he (by omega) (by omega)

/-- Behind the step of the program's machine of pair j. -/
structure StepsMid (w wr : World) (L : Nat → Nat) (gB gm gr : Nat) (n s h t : Int) (v14 : Value) (J : Nat) (ps : Nat → Value × Value × Nat) (ms : Nat → Mch) (ws : List Int) (c j g : Nat) (m' : Mch) (ws' : List Int) (c' : Nat) : Prop where
  fr : Fr No w wr
  old : Old L w
  cfg : Blk wr gB #[.int .i64 n, .int .i64 s, .int .i64 h, .int .u32 t] 25
  lab : L gB = 0
  mem : MemAt wr (Lab L wr 1) gm ws' c'
  ref : RefAt wr (Lab L wr 2) gr ws c
  pairs : Own wr (Free0 L w wr) 62 3 v14 J (flat J ps)
  slot : ∀ k, k < J → ¬ k = j → StSlot wr L n s h t k (ps k) (ms k)
  mch : MchAt wr (Lab L wr (3 + 2 * j)) g n s h t m'
  rch : RchAt wr (Lab L wr (4 + 2 * j)) (ps j).2.2 n s h t (ms j)

theorem StepsSt.left (H : StepsSt w wr L gB gm gr n s h t v14 J ps ms ws c) (hj : j < J) (hl : Left L wr 1 (3 + 2 * j) g gm n s h t m' ws' c' w') :
    ∃ L', Ext L L' wr ∧ FrL L (fun k => k = 1 ∨ k = 3 + 2 * j) wr w' ∧ StepsMid w w' L' gB gm gr n s h t v14 J ps ms ws c j g m' ws' c' := by
  obtain ⟨L', hE, hX, hM, hf⟩ := hl
  obtain ⟨g0, a, b, hc, hd⟩ := H.slot j hj
  exact ⟨L', hE, hf, ⟨H.old.fr H.fr hf (by omega), H.old.ext hE H.fr.size, Fr.keep hf H.cfg (by rw [H.lab]; omega), (hE gB H.cfg.lt).trans H.lab, hM, H.ref.lab hf hE (by omega), H.pairs.lab0 hf hE (by omega), fun k hk hne => (H.slot k hk).lab hf hE (by omega) (by omega), hX, hd.lab hf hE (by omega)⟩⟩

theorem StepsMid.right {e : Ending} {rr : Mch × List Int × Nat} (H : StepsMid w wr L gB gm gr n s h t v14 J ps ms ws c j g m' ws' c') (hj : j < J) (hp : PairOf m' g (ps j).1 (ps j).2.1) (hvt : m'.give = true → (ps j).1 = .pointer none) (hw : Words ws')
    (hr : RPost L wr 2 (4 + 2 * j) (ps j).2.2 gr n s h t rr e w') (he : rr = (m', ws', c')) : ∃ L', StepsSt w w' L' gB gm gr n s h t v14 J ps (upd ms j m') ws' c' := by
  subst he
  obtain ⟨_, L', hE, hX, hM, hf⟩ := hr
  refine ⟨L', ⟨H.old.fr H.fr hf (by omega), H.old.ext hE H.fr.size, Fr.keep hf H.cfg (by rw [H.lab]; omega), (hE gB H.cfg.lt).trans H.lab, H.mem.lab hf hE (by omega), hM, hw, H.pairs.lab0 hf hE (by omega), fun k hk => ?_⟩⟩
  by_cases e : k = j
  · subst e; rw [upd_same]; exact ⟨g, hp, hvt, H.mch.lab hf hE (by omega), hX⟩
  · rw [upd_ne _ _ e]; exact (H.slot k hk e).lab hf hE (by omega) (by omega)
end Go.Proofs.Ytfglpigoljclbaa.H
