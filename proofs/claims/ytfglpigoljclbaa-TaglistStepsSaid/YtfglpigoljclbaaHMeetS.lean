/- Law 7's TaglistMeets: its state: four pairs, what four threads hold. -/
import Derived.Test.YtfglpigoljclbaaHWhole7
import Derived.Test.YtfglpigoljclbaaHLate
set_option linter.unusedVariables false
set_option linter.unusedSimpArgs false
namespace Go.Proofs.Ytfglpigoljclbaa.H
open Go.RowKit
variable {w w' a b wr : World} {S T : Nat → Prop} {g gm gB gh ga k c c' kM kX j D : Nat} {ws ws' : List Int} {m m' : Mch} {n s h t : Int} {L L' : Nat → Nat} {vt vg : Value}

theorem and_one_i64 (y : Int) : bits BinOp.and IntKind.i64 y 1 = 0 ∨ bits BinOp.and IntKind.i64 y 1 = 1 := by
  have e : bits BinOp.and IntKind.i64 y 1 = IntKind.i64.wrap (((BitVec.ofInt 64 y).toNat &&& (BitVec.ofInt 64 1).toNat : Nat) : Int) := by
    simp only [bits, BitVec.toNat_and]; rfl
  rw [e, show (BitVec.ofInt 64 1).toNat = 1 from by decide, Nat.and_one_is_mod]
  rcases Nat.mod_two_eq_zero_or_one (BitVec.ofInt 64 y).toNat with h | h <;> rw [h]
  · exact .inl (by decide)
  · exact .inr (by decide)

/-- Four pairs' cells. -/
def pcells (ps : Nat → Value × Value) : List Value :=
  [(ps 0).1, (ps 0).2, .pointer none, (ps 1).1, (ps 1).2, .pointer none, (ps 2).1, (ps 2).2, .pointer none, (ps 3).1, (ps 3).2, .pointer none]
theorem pcells_len (ps : Nat → Value × Value) : (pcells ps).length = 12 := rfl
theorem pcells_get (ps : Nat → Value × Value) (hk : k < 4) : (pcells ps)[k * 3]? = some (ps k).1 ∧ (pcells ps)[k * 3 + 1]? = some (ps k).2 ∧ (pcells ps)[k * 3 + 2]? = some (.pointer none) := by
  rcases four hk with rfl | rfl | rfl | rfl <;> exact ⟨rfl, rfl, rfl⟩
theorem pcells_set (ps : Nat → Value × Value) (hk : k < 4) (x y : Value) : (((pcells ps).set (k * 3) x).set (k * 3 + 1) y).set (k * 3 + 2) (.pointer none) = pcells (upd ps k (x, y)) := by
  rcases four hk with rfl | rfl | rfl | rfl <;> rfl
theorem pcells_made : (madeCells (Value.agg #[.pointer none, .pointer none, .pointer none]).cells (4 * 3)).toList = pcells (fun _ => (.pointer none, .pointer none)) := by kernel_rfl
theorem info_pair : (Try.prog.info? 62).map (fun i => (i.zero, i.size, i.bytes)) = some (some (.agg #[.pointer none, .pointer none, .pointer none]), 3, 24) := by kernel_rfl

/-- What a thread holds. -/
def hl (x : Int) : List Int := if x = 0 then [] else [x]
theorem hl_mem {x y : Int} (h : x ∈ hl y) : x = y := by
  unfold hl at h
  split at h
  · cases h
  · simpa using h
theorem heldL_four (hs : List Int) (h : hs.length = 4) : heldL hs 4 = hl (hs.getD 0 0) ++ (hl (hs.getD 1 0) ++ (hl (hs.getD 2 0) ++ hl (hs.getD 3 0))) := by
  match hs, h with
  | [a, b, c, d], _ =>
    by_cases ha : a = 0 <;> by_cases hb : b = 0 <;> by_cases hc : c = 0 <;> by_cases hd : d = 0 <;> simp [heldL, hl, List.filter_cons, ha, hb, hc, hd]

/-- A pair's pointers fit the thread's machine. -/
def SlotOk (wr : World) (L : Nat → Nat) (n t : Int) (k : Nat) (p : Value × Value) : Option Mch → Prop
  | none => p = (.pointer none, .pointer none)
  | some m => ∃ g, PairOf m g p.1 p.2 ∧ MchAt wr (Lab L wr (3 + k)) g n 0 0 t m ∧ (m.give = true → p.1 = .pointer none)

/-- Blocks of nobody, made since w. -/
def Free0 (L : Nat → Nat) (w wr : World) : Nat → Prop := fun i => L i = 0 ∧ w.heap.size ≤ i ∧ i < wr.heap.size

/-- The law's state; slot D is not looked at. -/
structure MeetSt (w wr : World) (L : Nat → Nat) (gB gm gh ga : Nat) (n t : Int) (hs : List Int) (ps : Nat → Value × Value) (ms : Nat → Option Mch) (ws : List Int) (c D : Nat) : Prop where
  bs : Bs w wr L gB gm n t ws c
  held : Own wr (Free0 L w wr) 23 1 (.slice (some ⟨gh, 0, none⟩) 4 4) 4 (us .u32 hs)
  pairs : Own wr (Free0 L w wr) 62 3 (.slice (some ⟨ga, 0, none⟩) 4 4) 4 (pcells ps)
  hlen : hs.length = 4
  slot : ∀ k, k < 4 → ¬ k = D → SlotOk wr L n t k (ps k) (ms k)

variable {hs : List Int} {ps : Nat → Value × Value} {ms : Nat → Option Mch}

theorem SlotOk.lab {p : Value × Value} {o : Option Mch} {q : Nat → Prop} (H : SlotOk wr L n t k p o) (hf : FrL L q wr w') (he : Ext L L' wr) (hk : ¬ q (3 + k)) : SlotOk w' L' n t k p o := by
  cases o with
  | none => exact H
  | some m =>
    obtain ⟨g, h1, h2, h3⟩ := H
    exact ⟨g, h1, h2.lab hf he hk, h3⟩

theorem Own.lab0 {e size n : Nat} {v : Value} {xs : List Value} {q : Nat → Prop} (H : Own wr (Free0 L w wr) e size v n xs) (hf : FrL L q wr w') (he : Ext L L' wr) (hk : ¬ q 0) : Own w' (Free0 L' w w') e size v n xs :=
  H.move fun i hi hl => ⟨Fr.block hf i hl (fun h => hk (by rw [← hi.1]; exact h)), (he i hl).trans hi.1, hi.2.1, by have := hf.size; omega⟩

theorem MeetSt.re (H : MeetSt w wr L gB gm gh ga n t hs ps ms ws c D) (hf : Fr No wr w') (k : Nat) : MeetSt w w' (re L wr k) gB gm gh ga n t hs ps ms ws c D :=
  ⟨H.bs.re hf k, H.held.lab0 (q := fun _ => False) (FrL.ofNo hf) (ext_re L wr k) id, H.pairs.lab0 (q := fun _ => False) (FrL.ofNo hf) (ext_re L wr k) id, H.hlen, fun j hj hD => (H.slot j hj hD).lab (q := fun _ => False) (FrL.ofNo hf) (ext_re L wr k) id⟩

theorem MeetSt.no (H : MeetSt w wr L gB gm gh ga n t hs ps ms ws c D) (hf : Fr No wr w') : MeetSt w w' L gB gm gh ga n t hs ps ms ws c D :=
  ⟨H.bs.no hf, H.held.lab0 (q := fun _ => False) (FrL.ofNo hf) (Ext.refl _ _) id, H.pairs.lab0 (q := fun _ => False) (FrL.ofNo hf) (Ext.refl _ _) id, H.hlen, fun j hj hD => (H.slot j hj hD).lab (q := fun _ => False) (FrL.ofNo hf) (Ext.refl _ _) id⟩

/-- Behind a step of thread k's machine. -/
theorem MeetSt.left (H : MeetSt w wr L gB gm gh ga n t hs ps ms ws c D) (hD : D = 4 ∨ D = k) (hl : Left L wr 1 (3 + k) g gm n 0 0 t m' ws' c' w') : ∃ L', MeetSt w w' L' gB gm gh ga n t hs ps ms ws' c' k ∧ MchAt w' (Lab L' w' (3 + k)) g n 0 0 t m' := by
  obtain ⟨L', hbs, hm, hE, hf⟩ := H.bs.left (by omega) hl
  exact ⟨L', ⟨hbs, H.held.lab0 hf hE (by omega), H.pairs.lab0 hf hE (by omega), H.hlen, fun j hj hne => (H.slot j hj (by omega)).lab hf hE (by omega)⟩, hm⟩

/-- Slot k fits again. -/
theorem MeetSt.fit (H : MeetSt w wr L gB gm gh ga n t hs ps ms ws c k) (o : Option Mch) (h : SlotOk wr L n t k (ps k) o) : MeetSt w wr L gB gm gh ga n t hs ps (upd ms k o) ws c 4 :=
  ⟨H.bs, H.held, H.pairs, H.hlen, fun j hj _ => by
    by_cases e : j = k
    · subst e; rw [upd_same]; exact h
    · rw [upd_ne _ _ e]; exact H.slot j hj e⟩

theorem MeetSt.blk_pairs (H : MeetSt w wr L gB gm gh ga n t hs ps ms ws c D) : ∃ cur, Blk wr ga cur 62 := by
  rcases H.pairs.1.2 with ⟨hc, _⟩ | ⟨g', cap, cur, hc, hb, hgg, _⟩
  · cases hc
  · cases hc; exact ⟨cur, hgg⟩
theorem MeetSt.blk_held (H : MeetSt w wr L gB gm gh ga n t hs ps ms ws c D) : ∃ cur, Blk wr gh cur 23 := by
  rcases H.held.1.2 with ⟨hc, _⟩ | ⟨g', cap, cur, hc, hb, hgg, _⟩
  · cases hc
  · cases hc; exact ⟨cur, hgg⟩

/-- A pair is written. -/
theorem MeetSt.put (H : MeetSt w wr L gB gm gh ga n t hs ps ms ws c D) (hD : D = 4 ∨ D = k) (hk : k < 4) (x y : Value) (o : Option Mch) (h : SlotOk wr L n t k (x, y) o) :
    MeetSt w (((wr.setCell ⟨ga, k * 3, none⟩ x).setCell ⟨ga, k * 3 + 1, none⟩ y).setCell ⟨ga, k * 3 + 2, none⟩ (.pointer none)) L gB gm gh ga n t hs (upd ps k (x, y)) (upd ms k o) ws c 4 := by
  obtain ⟨hL, hn, hlt⟩ := H.pairs.2 ga rfl
  obtain ⟨cur, hB⟩ := H.blk_pairs
  have hne : gB ≠ ga := blk_ne H.bs.cfg hB (by decide)
  have hf : FrL L (fun q => q = 0) wr (((wr.setCell ⟨ga, k * 3, none⟩ x).setCell ⟨ga, k * 3 + 1, none⟩ y).setCell ⟨ga, k * 3 + 2, none⟩ (.pointer none)) :=
    Fr.setCell (Fr.setCell (Fr.setCell (Fr.refl _ _) (.inr hL) _) (.inr hL) _) (.inr hL) _
  have hf2 : Fr No w (((wr.setCell ⟨ga, k * 3, none⟩ x).setCell ⟨ga, k * 3 + 1, none⟩ y).setCell ⟨ga, k * 3 + 2, none⟩ (.pointer none)) :=
    Fr.setCell (Fr.setCell (Fr.setCell H.bs.fr (.inl hn) _) (.inl hn) _) (.inl hn) _
  have hP := ((H.pairs.set (k * 3) x (by rw [pcells_len]; omega)).set (k * 3 + 1) y (by rw [List.length_set, pcells_len]; omega)).set (k * 3 + 2) (.pointer none) (by rw [List.length_set, List.length_set, pcells_len]; omega)
  have hP0 := H.pairs
  have hP1 := hP0.set (k * 3) x (by rw [pcells_len]; omega)
  have hP2 := hP1.set (k * 3 + 1) y (by rw [List.length_set, pcells_len]; omega)
  rw [pcells_set ps hk] at hP
  have hsz : (((wr.setCell ⟨ga, k * 3, none⟩ x).setCell ⟨ga, k * 3 + 1, none⟩ y).setCell ⟨ga, k * 3 + 2, none⟩ (.pointer none)).heap.size = wr.heap.size := by simp [World.setCell]
  refine ⟨H.bs.free hf hf2 (((H.bs.cfg.far (p := ⟨ga, k * 3, none⟩) hne _).far (p := ⟨ga, k * 3 + 1, none⟩) hne _).far (p := ⟨ga, k * 3 + 2, none⟩) hne _), ?_, ?_, H.hlen, fun j hj hne => ?_⟩
  · exact (((H.held.apart hP0 (by decide) _).apart hP1 (by decide) _).apart hP2 (by decide) _).wide fun i hi _ => ⟨hi.1, hi.2.1, by rw [hsz]; exact hi.2.2⟩
  · exact hP.wide fun i hi _ => ⟨hi.1, hi.2.1, by rw [hsz]; exact hi.2.2⟩
  · by_cases e : j = k
    · subst e; rw [upd_same, upd_same]; exact h.lab hf (Ext.refl _ _) (by omega)
    · rw [upd_ne _ _ e, upd_ne _ _ e]; exact (H.slot j hj (by omega)).lab hf (Ext.refl _ _) (by omega)

/-- What a thread holds is written. -/
theorem MeetSt.hold (H : MeetSt w wr L gB gm gh ga n t hs ps ms ws c D) (hk : k < 4) (x : Int) :
    MeetSt w (wr.setCell ⟨gh, k, none⟩ (.int .u32 x)) L gB gm gh ga n t (hs.set k x) ps ms ws c D := by
  obtain ⟨hL, hn, hlt⟩ := H.held.2 gh rfl
  obtain ⟨cur, hB⟩ := H.blk_held
  have hne : gB ≠ gh := blk_ne H.bs.cfg hB (by decide)
  have hf : FrL L (fun q => q = 0) wr (wr.setCell ⟨gh, k, none⟩ (.int .u32 x)) := Fr.setCell (Fr.refl _ _) (.inr hL) _
  have hf2 : Fr No w (wr.setCell ⟨gh, k, none⟩ (.int .u32 x)) := Fr.setCell H.bs.fr (.inl hn) _
  have hH := H.held.set k (.int .u32 x) (by rw [us_len, H.hlen]; exact hk)
  rw [us_set] at hH
  have hsz : (wr.setCell ⟨gh, k, none⟩ (.int .u32 x)).heap.size = wr.heap.size := by simp [World.setCell]
  exact ⟨H.bs.free hf hf2 (H.bs.cfg.far (p := ⟨gh, k, none⟩) hne _), hH.wide (fun i hi _ => ⟨hi.1, hi.2.1, by rw [hsz]; exact hi.2.2⟩), (H.pairs.apart H.held (by decide) _).wide (fun i hi _ => ⟨hi.1, hi.2.1, by rw [hsz]; exact hi.2.2⟩), by rw [List.length_set]; exact H.hlen, fun j hj hne => (H.slot j hj hne).lab hf (Ext.refl _ _) (by omega)⟩

/-- The cells that the walk reads. -/
theorem MeetSt.cells (H : MeetSt w wr L gB gm gh ga n t hs ps ms ws c D) (hk : k < 4) : wr.cell? ⟨ga, k * 3, none⟩ = some (ps k).1 ∧ wr.cell? ⟨ga, k * 3 + 1, none⟩ = some (ps k).2 ∧ wr.cell? ⟨ga, k * 3 + 2, none⟩ = some (.pointer none) ∧
    wr.cell? ⟨gh, k, none⟩ = some (.int .u32 (hs.getD k 0)) ∧ (∀ j, wr.frozen? ⟨ga, j, none⟩ = false) ∧ wr.frozen? ⟨gh, k, none⟩ = false ∧ ga ≠ gh ∧ ga < wr.heap.size ∧ gh < wr.heap.size := by
  obtain ⟨g', cap', hv, _, hl, _, hc, hfz⟩ := H.pairs.form (by omega)
  cases hv
  obtain ⟨g2, cap2, hv2, _, hl2, _, hc2, hfz2⟩ := H.held.form (by omega)
  cases hv2
  obtain ⟨h1, h2, h3⟩ := pcells_get ps hk
  obtain ⟨cur, hB⟩ := H.blk_pairs
  obtain ⟨cur2, hB2⟩ := H.blk_held
  exact ⟨(hc _ (by rw [pcells_len]; omega)).trans h1, (hc _ (by rw [pcells_len]; omega)).trans h2, (hc _ (by rw [pcells_len]; omega)).trans h3, own_node H.held hk H.hlen, hfz, hfz2 k, blk_ne hB hB2 (by decide), hl, hl2⟩

/-- What 'whole' looks at. -/
theorem meet_whole {T : Nat} {ls : Nat → List Int} {cn : Nat → Nat} (H : MInv n t T ws ls cn (fun k => hl (hs.getD k 0)) ms) (hh : hs.length = 4) :
    chainL n ws (ws.getD 0 0) = some (ls 0) ∧ chainL n ws (ws.getD 1 0) = some (ls 1) ∧ (ls 0 ++ ls 1 ++ heldL hs 4).Nodup ∧ (∀ x ∈ ls 0 ++ ls 1 ++ heldL hs 4, 1 ≤ x ∧ x ≤ n) ∧ ((ls 0 ++ ls 1 ++ heldL hs 4).length : Int) = n ∧
    ∀ j, 0 ≤ hs.getD j 0 ∧ hs.getD j 0 < 4294967296 := by
  have hn1 := H.pl.n1
  have hn2 := H.pl.n2
  have hc : ∀ x, (ls 0 ++ ls 1 ++ heldL hs 4).count x = if 1 ≤ x ∧ x ≤ n then 1 else 0 := fun x => by
    rw [← H.all x, heldL_four hs hh]
    simp only [List.count_append, cntAll]
    omega
  obtain ⟨h1, h2, h3⟩ := all_perm (by omega) _ hc
  have hle : ((ls 0).length : Int) ≤ n ∧ ((ls 1).length : Int) ≤ n := by
    simp only [List.length_append] at h3
    omega
  refine ⟨(H.ch 0 (by omega)).chainL hle.1, (H.ch 1 (by omega)).chainL hle.2, h1, h2, h3, fun j => ?_⟩
  by_cases hj : j < 4
  · by_cases hz : hs.getD j 0 = 0
    · rw [hz]; omega
    · have := H.own_in hj (x := hs.getD j 0) (by simp [hl, -List.getD_eq_getElem?_getD, hz])
      omega
  · rw [List.getD_eq_getElem?_getD, List.getElem?_eq_none (by omega)]
    simp
end Go.Proofs.Ytfglpigoljclbaa.H
