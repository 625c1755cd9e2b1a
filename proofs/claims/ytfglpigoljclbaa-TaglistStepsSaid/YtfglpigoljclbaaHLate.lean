/- Law 7's TaglistLate, the plain part and its state. -/
import Derived.Test.YtfglpigoljclbaaHBs7
import Derived.Test.YtfglpigoljclbaaHSame
set_option linter.unusedVariables false
set_option linter.unusedSimpArgs false
namespace Go.Proofs.Ytfglpigoljclbaa.H
open Go.RowKit
variable {w w' a b wr : World} {S T : Nat → Prop} {g gm gB gP gX k c c' kM kX j : Nat} {ws ws' : List Int} {m m' : Mch} {n s h t v0 u : Int} {L L' : Nat → Nat} {gv : Bool} {vt vg : Value}

/-- The list's word, behind j takes and gives. -/
structure LateW (n v0 : Int) (j : Nat) (ws : List Int) : Prop where
  pl : Pl n ws
  lo : ws.getD 1 0 % 4294967296 = v0 % 4294967296
  hi : ws.getD 1 0 / 4294967296 = (v0 / 4294967296 + 2 * j) % 4294967296
  zero : j = 0 → ws.getD 1 0 = v0

theorem late_0 (h : Pl n ws) : LateW n (ws.getD 1 0) 0 ws := ⟨h, rfl, by have := h.words 1; omega, fun _ => rfl⟩

/-- The first node is taken: the second one is the first then. -/
theorem late_taken (h1 : 1 ≤ n) (h2 : n ≤ 64) (t0 : 0 ≤ t) (t1 : t < 4294967296) : ∃ ws1, Three n ⟨false, 1, 0, 0, 0, 0, 0⟩ (freshL n 0 0 t) 1 ws1 ∧ Pl n ws1 ∧ (2 ≤ n → ws1.getD 1 0 % 4294967296 = 2) := by
  have hp := fresh_pl h1 h2 t0 t1
  have hl := hp.len
  have T1 := three_take hp (.inr rfl) (p := 1) (fresh_1 h1) (i := 1) (by omega) (by omega) h1
  rw [show (1 : Int).toNat = 1 from rfl] at T1
  obtain ⟨q, hq⟩ : ∃ q, q = (freshL n 0 0 t).getD (2 * 1 : Int).toNat 0 % 4294967296 := ⟨_, rfl⟩
  have hq2 : 2 ≤ n → q = 2 := fun h => by rw [hq, fresh_link (by omega) h1, if_pos (by omega)]; omega
  have hu0 : 0 ≤ q ∧ q < 4294967296 := by omega
  rw [← hq] at T1
  obtain ⟨b0, b1⟩ := nextWord_in (1 + t * 4294967296) q hu0.1 hu0.2
  exact ⟨_, T1, hp.set 1 _ b0 b1, fun h => by rw [getD_set _ _ _ _ (by omega), if_pos rfl, nextWord_lo _ _ hu0.1 hu0.2, hq2 h]⟩

/-- p, ahead of its first step. -/
def lateM (gv : Bool) : Mch := if gv then ⟨true, 1, 1, 0, 0, 0, 0⟩ else ⟨false, 1, 0, 0, 0, 0, 0⟩
theorem lateM_give : (lateM gv).give = gv := by cases gv <;> rfl

/-- Which step comes next. -/
def latePc (Q : Int) : Nat := if Q = 1 then 2 else 1

theorem late_first (h : Pl n ws) (h1 : gv = false → ws.getD 1 0 % 4294967296 = 1) : ∀ c, mgo n 0 0 (lateM gv) ws c = (⟨gv, 1, 1, ws.getD 1 0, 1, 0, 0⟩, ws, c + 1) := by
  cases gv with
  | false => exact fun c => mgo_t0 h (.inr rfl) rfl (h1 rfl) (by omega) h.n1
  | true => exact fun c => mgo_g0 h (.inr rfl) rfl (by omega) h.n1

/-- The second step of p. -/
theorem late_second (h : LateW n v0 j ws) : ∃ u' ws', (∀ c, mgo n 0 0 ⟨gv, 1, 1, v0, 1, u, 0⟩ ws c = (⟨gv, 1, 1, v0, 2, u', 0⟩, ws', c + 1)) ∧ LateW n v0 j ws' := by
  have n1 := h.pl.n1
  have hl := h.pl.len
  cases gv with
  | false => exact ⟨_, ws, fun c => mgo_t1 h.pl (by omega) h.pl.n1 rfl, h⟩
  | true =>
    refine ⟨u, _, fun c => mgo_g1 h.pl (by omega) h.pl.n1, ?_⟩
    have hg : (ws.set (2 * 1 : Int).toNat (v0 % 4294967296)).getD 1 0 = ws.getD 1 0 := by
      rw [getD_set _ _ _ _ (by show 2 < ws.length; omega), if_neg (by decide)]
    exact ⟨h.pl.set _ _ (by omega) (by omega), by rw [hg]; exact h.lo, by rw [hg]; exact h.hi, fun e => by rw [hg]; exact h.zero e⟩

/-- The last one. -/
theorem late_yes (h : LateW n v0 0 ws) : ∃ ws', ∀ c, mgo n 0 0 ⟨gv, 1, 1, v0, 2, u, 0⟩ ws c = (⟨gv, 1, 1, v0, 2, u, 1⟩, ws', c + 1) :=
  ⟨_, fun c => mgo_2yes h.pl (.inr rfl) (h.zero rfl)⟩
theorem late_no (h : LateW n v0 j ws) (hv : 0 ≤ v0 ∧ v0 < 18446744073709551616) (h1 : 1 ≤ j) (h2 : j ≤ 3) : ∀ c, mgo n 0 0 ⟨gv, 1, 1, v0, 2, u, 0⟩ ws c = (⟨gv, 1, 1, v0, 2, u, 3⟩, ws, c + 1) := fun c =>
  mgo_2no h.pl (.inr rfl) (fun e => by
    have := h.hi
    rw [show (1 : Int).toNat = 1 from rfl] at e
    rw [e] at this
    omega)

/-- A take and a give between. -/
theorem late_between (h : LateW n v0 j ws) (h1 : 1 ≤ v0 % 4294967296) (h2 : v0 % 4294967296 ≤ n) : ∃ ws1 ws2, Three n ⟨false, 1, 0, 0, 0, 0, 0⟩ ws (v0 % 4294967296) ws1 ∧ Three n ⟨true, 1, v0 % 4294967296, 0, 0, 0, 0⟩ ws1 (v0 % 4294967296) ws2 ∧ Words ws1 ∧ LateW n v0 (j + 1) ws2 := by
  have hx := h.lo
  have n2 := h.pl.n2
  have hl := h.pl.len
  have T1 := three_take h.pl (.inr rfl) rfl (i := v0 % 4294967296) (p := 1) hx h1 h2
  rw [show (1 : Int).toNat = 1 from rfl] at T1
  obtain ⟨q, hq⟩ : ∃ q, q = ws.getD (2 * (v0 % 4294967296)).toNat 0 % 4294967296 := ⟨_, rfl⟩
  have hu0 : 0 ≤ q ∧ q < 4294967296 := by omega
  rw [← hq] at T1
  obtain ⟨b0, b1⟩ := nextWord_in (ws.getD 1 0) q hu0.1 hu0.2
  have P1 := h.pl.set 1 (nextWord (ws.getD 1 0) q) b0 b1
  have g1 : (ws.set 1 (nextWord (ws.getD 1 0) q)).getD 1 0 = nextWord (ws.getD 1 0) q := by rw [getD_set _ _ _ _ (by omega), if_pos rfl]
  have hi1 := nextWord_hi (ws.getD 1 0) q hu0.1 hu0.2
  generalize ws.set 1 (nextWord (ws.getD 1 0) q) = ws1 at T1 P1 g1
  have hl1 := P1.len
  have T2 := three_give (i := v0 % 4294967296) P1 (p := 1) (.inr rfl) rfl h1 h2
  rw [show (1 : Int).toNat = 1 from rfl] at T2
  have w1 := P1.words 1
  have P2 := P1.set (2 * (v0 % 4294967296)).toNat (ws1.getD 1 0 % 4294967296) (by omega) (by omega)
  obtain ⟨d0, d1⟩ := nextWord_in (ws1.getD 1 0) (v0 % 4294967296) (by omega) (by omega)
  have P3 := P2.set 1 (nextWord (ws1.getD 1 0) (v0 % 4294967296)) d0 d1
  have hhi := h.hi
  refine ⟨ws1, _, T1, T2, P1.words, ⟨P3, ?_, ?_, fun e => by omega⟩⟩
  · rw [getD_set _ _ _ _ (by rw [List.length_set]; omega), if_pos rfl, nextWord_lo _ _ (by omega) (by omega)]
  · rw [getD_set _ _ _ _ (by rw [List.length_set]; omega), if_pos rfl, nextWord_hi _ _ (by omega) (by omega), g1, hi1, hhi]
    omega

/-- Nobody's blocks were written. -/
theorem Bs.free (H : Bs w wr L gB gm n t ws c) (hf : FrL L (fun k => k = 0) wr w') (hf2 : Fr No w w') (hc : Blk w' gB #[.int .i64 n, .int .i64 0, .int .i64 0, .int .u32 t] 25) : Bs w w' L gB gm n t ws c :=
  ⟨hf2, H.old, hc, H.lab, H.mem.lab hf (Ext.refl _ _) (by decide)⟩
theorem MchAt.free (H : MchAt w (Lab L w k) g n s h t m) (hf : FrL L (fun k => k = 0) w w') (hk : ¬ k = 0) : MchAt w' (Lab L w' k) g n s h t m := H.lab hf (Ext.refl _ _) hk

/-- The law's state: a config, a memory, a pair in its box, its machine. -/
structure LateSt (w wr : World) (L : Nat → Nat) (gB gm gP gX : Nat) (n t : Int) (vt vg : Value) (m : Mch) (ws : List Int) (c : Nat) : Prop where
  bs : Bs w wr L gB gm n t ws c
  box : Blk wr gP #[vt, vg, .pointer none] 62
  boxL : L gP = 0
  new : w.heap.size ≤ gP
  mch : MchAt wr (Lab L wr 2) gX n 0 0 t m
  pair : PairOf m gX vt vg

/-- Behind a step of p. -/
theorem LateSt.step (H : LateSt w wr L gB gm gP gX n t vt vg m ws c) (hL : Left L wr 1 2 gX gm n 0 0 t m' ws' c' w') (hg : m'.give = m.give) : ∃ L', LateSt w w' L' gB gm gP gX n t vt vg m' ws' c' := by
  obtain ⟨L', hbs, hm, hE, hf⟩ := H.bs.left (by decide) hL
  exact ⟨L', hbs, Fr.keep hf H.box (by rw [H.boxL]; decide), (hE gP H.box.lt).trans H.boxL, H.new, hm, H.pair.to hg⟩

/-- Behind steps of another one, of label 3. -/
theorem LateSt.other (H : LateSt w wr L gB gm gP gX n t vt vg m ws c) (hL : Left L wr 1 3 g gm n 0 0 t m' ws' c' w') : ∃ L', LateSt w w' L' gB gm gP gX n t vt vg m ws' c' ∧ MchAt w' (Lab L' w' 3) g n 0 0 t m' := by
  obtain ⟨L', hbs, hm, hE, hf⟩ := H.bs.left (by decide) hL
  exact ⟨L', ⟨hbs, Fr.keep hf H.box (by rw [H.boxL]; decide), (hE gP H.box.lt).trans H.boxL, H.new, H.mch.lab hf hE (by decide), H.pair⟩, hm⟩

theorem LateSt.re (H : LateSt w wr L gB gm gP gX n t vt vg m ws c) (hf : Fr No wr w') (k : Nat) : LateSt w w' (re L wr k) gB gm gP gX n t vt vg m ws c :=
  ⟨H.bs.re hf k, hf.keepNo H.box, (ext_re L wr k gP H.box.lt).trans H.boxL, H.new, H.mch.lab (S := fun _ => False) (FrL.ofNo hf) (ext_re L wr k) id, H.pair⟩
theorem LateSt.no (H : LateSt w wr L gB gm gP gX n t vt vg m ws c) (hf : Fr No wr w') : LateSt w w' L gB gm gP gX n t vt vg m ws c :=
  ⟨H.bs.no hf, hf.keepNo H.box, H.boxL, H.new, H.mch.no hf, H.pair⟩
end Go.Proofs.Ytfglpigoljclbaa.H
