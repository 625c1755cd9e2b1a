/- What the laws of chapters 7 and 8 hold while they go: a config, a memory; nothing old was written. -/
import Derived.Test.YtfglpigoljclbaaHEnds7
set_option linter.unusedVariables false
set_option linter.unusedSimpArgs false
namespace Go.Proofs.Ytfglpigoljclbaa.H
open Go.RowKit
attribute [local go_sem ↓] Go.wp_at_zero Go.wp_at_succ
variable {w w' a b wr : World} {S T : Nat → Prop} {g gm gB k c c' kM kX : Nat} {ws ws' : List Int} {m m' : Mch} {n s h t : Int} {L L' : Nat → Nat}

/-- Since w nothing of w was written; a config lies at gB, a memory at gm. -/
structure Bs (w wr : World) (L : Nat → Nat) (gB gm : Nat) (n t : Int) (ws : List Int) (c : Nat) : Prop where
  fr : Fr No w wr
  old : Old L w
  cfg : Blk wr gB #[.int .i64 n, .int .i64 0, .int .i64 0, .int .u32 t] 25
  lab : L gB = 0
  mem : MemAt wr (Lab L wr 1) gm ws c

theorem Bs.no (H : Bs w wr L gB gm n t ws c) (hf : Fr No wr w') : Bs w w' L gB gm n t ws c :=
  ⟨H.fr.then hf, H.old, hf.keepNo H.cfg, H.lab, H.mem.no hf⟩

/-- Another label for what is new. -/
theorem Bs.re (H : Bs w wr L gB gm n t ws c) (hf : Fr No wr w') (k : Nat) : Bs w w' (re L wr k) gB gm n t ws c :=
  ⟨H.fr.then hf, H.old.ext (ext_re L wr k) H.fr.size, hf.keepNo H.cfg, (ext_re L wr k gB H.cfg.lt).trans H.lab, H.mem.lab (S := fun _ => False) (FrL.ofNo hf) (ext_re L wr k) id⟩

theorem Bs.left (H : Bs w wr L gB gm n t ws c) (hk : ¬ kX = 0) (h : Left L wr 1 kX g gm n 0 0 t m' ws' c' w') : ∃ L', Bs w w' L' gB gm n t ws' c' ∧ MchAt w' (Lab L' w' kX) g n 0 0 t m' ∧ Ext L L' wr ∧ FrL L (fun k => k = 1 ∨ k = kX) wr w' := by
  obtain ⟨L', hE, hX, hM, hf⟩ := h
  refine ⟨L', ⟨H.old.fr H.fr hf (by omega), H.old.ext hE H.fr.size, Fr.keep hf H.cfg (by rw [H.lab]; omega), (hE gB H.cfg.lt).trans H.lab, hM⟩, hX, hE, hf⟩

/-- The words, in a slice that is told. -/
theorem Words_at (w : World) (h : MemAt w S g ws k) (N : Nat) (hN : ws.length = N) (h0 : 0 < N) (hl : N ≤ 1000000) :
    Calls Try.prog 43 #[.pointer (some ⟨g, 0, none⟩)] w fun e w' => ∃ gw cw, e = .returned (.slice (some ⟨gw, 0, none⟩) N cw) ∧ Own w' (New w.heap.size) 26 1 (.slice (some ⟨gw, 0, none⟩) N cw) N (us .u64 ws) ∧ Fr No w w' := by
  subst hN
  refine (Words_ w h hl).mono ?_
  rintro e w' ⟨v, rfl, hO, hf⟩
  obtain ⟨g, cap, rfl, _⟩ := hO.form h0
  exact ⟨g, cap, rfl, hO, hf⟩

/-- A word of it. -/
theorem own_word {gw cw N j : Nat} (hO : Own w S 26 1 (.slice (some ⟨gw, 0, none⟩) N cw) N (us .u64 ws)) (hj : j < N) (hN : ws.length = N) : w.cell? ⟨gw, j, none⟩ = some (.int .u64 (ws.getD j 0)) := by
  obtain ⟨g', cap', hv, _, _, _, hc, _⟩ := hO.form (by omega)
  cases hv
  rw [hc j (by rw [us_len]; omega), us_get _ _ _ (by omega)]
theorem own_node {gw cw N j : Nat} (hO : Own w S 23 1 (.slice (some ⟨gw, 0, none⟩) N cw) N (us .u32 ws)) (hj : j < N) (hN : ws.length = N) : w.cell? ⟨gw, j, none⟩ = some (.int .u32 (ws.getD j 0)) := by
  obtain ⟨g', cap', hv, _, _, _, hc, _⟩ := hO.form (by omega)
  cases hv
  rw [hc j (by rw [us_len]; omega), us_get _ _ _ (by omega)]

theorem pick00 : pickV 0 17 = 0 ∧ pickV 0 65 = 0 := by decide

/-- Chain, where the words' chain is known: a slice that is told. -/
theorem Chain_at (w : World) (n t x : Int) (N : Nat) (hp : Pl n ws) (hN : ws.length = N) {gw cw : Nat} (hO : Own w S 26 1 (.slice (some ⟨gw, 0, none⟩) N cw) N (us .u64 ws)) (x0 : 0 ≤ x) (x1 : x < 18446744073709551616) (l : List Int) (hR : chainL n ws x = some l) :
    Calls Try.prog 31 #[cfg n 0 0 t, .slice (some ⟨gw, 0, none⟩) N cw, .int .u64 x] w fun e w' => ∃ A cl, e = .returned (.tuple #[.slice A l.length cl, .bool true]) ∧ Own w' (New w.heap.size) 23 1 (.slice A l.length cl) l.length (us .u32 l) ∧ Fr No w w' := by
  refine (Chain_ w S n 0 0 t x hp.ok _ ws hO.rd hp.words (by have := hp.len; omega) x0 x1 _ hR).mono ?_
  rintro e w' ⟨⟨v, rfl, hv⟩, hf⟩
  obtain ⟨A, cl, rfl, _, _⟩ := hv.slice
  exact ⟨A, cl, rfl, hv, hf⟩
end Go.Proofs.Ytfglpigoljclbaa.H
