/- Law 8's ArenaTries, in plain terms; a store to the memory. -/
import Derived.Test.YtfglpigoljclbaaHMT8
set_option linter.unusedVariables false
set_option linter.unusedSimpArgs false
namespace Go.Proofs.Ytfglpigoljclbaa.H
open Go.RowKit
variable {w w' wr : World} {g gm gB c : Nat} {n t p i v b : Int} {ws : List Int} {L L' : Nat → Nat}

/-- The try of a machine between its steps. -/
def trM (gv : Bool) (v u : Int) : Nat → Option Mch
  | 0 => none
  | 1 => some ⟨gv, 1, 1, v, 1, 0, 0⟩
  | _ => some ⟨gv, 1, 1, v, 2, u, 0⟩

/-- Behind r tries and ph steps. -/
structure TrS (n b : Int) (gv : Bool) (r ph : Nat) (A : Arn) (ws : List Int) : Prop where
  pl : Pl n ws
  one : ws.getD 1 0 % 4294967296 = 1
  st : ∃ u, A = ⟨gv, b - r, [], trM gv (ws.getD 1 0) u ph, 0, 0, cond gv 1 0⟩

/-- A step of a machine whose try is Contended. -/
theorem astep_con {A : Arn} {ws' : List Int} {c' : Nat} {m m' : Mch} (hst : A.st = 0) (hs : A.shelf = []) (hm : A.now.getD A.fresh = m) (hg : mgo n 0 0 m ws c = (m', ws', c')) (h3 : m'.st = 3) (hl : ¬ A.left = 0) :
    astep n 0 0 A ws c = ({ A with now := none, st := 0, left := A.left - 1, i := 0 }, ws', c') := by
  have ht : m'.told = 0 := told_not (by omega)
  have e : ago n 0 0 A ws c = ({ A with now := none, st := 0, left := A.left - 1, i := 0 }, ws', c') := by
    unfold ago
    rw [if_pos hst, hm, hg]
    simp only
    rw [if_pos h3, if_neg hl, ht]
  unfold astep
  rw [e, hs]
  split
  · simp
  · simp

/-- The last one. -/
theorem astep_last {A : Arn} {ws' : List Int} {c' : Nat} {m m' : Mch} (hst : A.st = 0) (hs : A.shelf = []) (hm : A.now.getD A.fresh = m) (hg : mgo n 0 0 m ws c = (m', ws', c')) (h3 : m'.st = 3) (hl : A.left = 0) :
    astep n 0 0 A ws c = (if A.give then { A with now := none, shelf := [A.node], st := 1, left := A.left - 1, i := A.node } else { A with now := none, st := 6, left := A.left - 1, i := 0 }, ws', c') := by
  have ht : m'.told = 0 := told_not (by omega)
  have e : ago n 0 0 A ws c = ({ A with now := none, st := 6, left := A.left - 1, i := 0 }, ws', c') := by
    unfold ago
    rw [if_pos hst, hm, hg]
    simp only
    rw [if_pos h3, if_pos hl, ht]
  unfold astep
  rw [e, hs]
  split
  · simp
  · simp

variable {gv : Bool} {r : Nat} {A : Arn}
theorem TrS.go0 (h : TrS n b gv r 0 A ws) : ∃ A', (∀ c, astep n 0 0 A ws c = (A', ws, c + 1)) ∧ A'.st = 0 ∧ A'.i = 0 ∧ A'.shelf = [] ∧ TrS n b gv r 1 A' ws := by
  obtain ⟨pl, one, u, rfl⟩ := h
  have n1 := pl.n1
  refine ⟨⟨gv, b - r, [], trM gv (ws.getD 1 0) u 1, 0, 0, cond gv 1 0⟩, fun c => ?_, rfl, rfl, rfl, pl, one, u, rfl⟩
  cases gv with
  | true => exact astep_of rfl rfl rfl (mgo_g0 (p := 1) (i := 1) pl (.inr rfl) rfl (by omega) (by omega)) (by show ¬ (0 : Int) = 3; omega) (by show ¬ (0 : Int) = 6; omega)
  | false => exact astep_of rfl rfl rfl (mgo_t0 (p := 1) pl (.inr rfl) rfl one (by omega) (by omega)) (by show ¬ (0 : Int) = 3; omega) (by show ¬ (0 : Int) = 6; omega)

theorem TrS.go1 (h : TrS n b gv r 1 A ws) : ∃ A' ws', (∀ c, astep n 0 0 A ws c = (A', ws', c + 1)) ∧ A'.st = 0 ∧ A'.i = 0 ∧ A'.shelf = [] ∧ TrS n b gv r 2 A' ws' := by
  obtain ⟨pl, one, u, rfl⟩ := h
  have n1 := pl.n1
  have hl := pl.len
  cases gv with
  | true =>
    have g2 : (ws.set (2 * (1 : Int)).toNat (ws.getD 1 0 % 4294967296)).getD 1 0 = ws.getD 1 0 := by rw [getD_set _ _ _ _ (by omega), if_neg (by omega)]
    refine ⟨⟨true, b - r, [], trM true (ws.getD 1 0) 0 2, 0, 0, 1⟩, ws.set (2 * (1 : Int)).toNat (ws.getD 1 0 % 4294967296), fun c => ?_, rfl, rfl, rfl, pl.set _ _ (by omega) (by omega), by rw [g2]; exact one, 0, by rw [g2]; rfl⟩
    exact astep_of rfl rfl rfl (mgo_g1 (p := 1) (i := 1) pl (by omega) (by omega)) (by show ¬ (0 : Int) = 3; omega) (by show ¬ (0 : Int) = 6; omega)
  | false =>
    refine ⟨⟨false, b - r, [], trM false (ws.getD 1 0) (ws.getD (2 * (1 : Int)).toNat 0) 2, 0, 0, 0⟩, ws, fun c => ?_, rfl, rfl, rfl, pl, one, _, rfl⟩
    exact astep_of rfl rfl rfl (mgo_t1 (p := 1) (i := 1) pl (by omega) (by omega) rfl) (by show ¬ (0 : Int) = 3; omega) (by show ¬ (0 : Int) = 6; omega)

/-- The same list, the next tag. -/
def bmp (v : Int) : Int := (v + 4294967296) % 18446744073709551616
theorem bmp_in (v : Int) : 0 ≤ bmp v ∧ bmp v < 18446744073709551616 := by unfold bmp; omega
theorem bmp_lo (v : Int) : bmp v % 4294967296 = v % 4294967296 := by unfold bmp; omega
theorem bmp_ne (v : Int) (h0 : 0 ≤ v) (h1 : v < 18446744073709551616) : ¬ bmp v = v := by unfold bmp; omega

theorem TrS.bump (h : TrS n b gv r 2 A ws) : (ws.set 1 (bmp (ws.getD 1 0))).getD 1 0 = bmp (ws.getD 1 0) ∧ Pl n (ws.set 1 (bmp (ws.getD 1 0))) := by
  have hl := h.pl.len
  have := h.pl.n1
  have hb := bmp_in (ws.getD 1 0)
  exact ⟨by rw [getD_set _ _ _ _ (by omega), if_pos rfl], h.pl.set _ _ hb.1 hb.2⟩

theorem TrS.go2 (h : TrS n b gv r 2 A ws) (hr : (r : Int) < b) : ∃ A', (∀ c, astep n 0 0 A (ws.set 1 (bmp (ws.getD 1 0))) c = (A', ws.set 1 (bmp (ws.getD 1 0)), c + 1)) ∧ A'.st = 0 ∧ A'.i = 0 ∧ A'.shelf = [] ∧ TrS n b gv (r + 1) 0 A' (ws.set 1 (bmp (ws.getD 1 0))) := by
  obtain ⟨hb1, hb2⟩ := h.bump
  obtain ⟨pl, one, u, rfl⟩ := h
  have w1 := pl.words 1
  have hne := bmp_ne _ w1.1 w1.2
  refine ⟨⟨gv, b - (r + 1 : Nat), [], none, 0, 0, cond gv 1 0⟩, fun c => ?_, rfl, rfl, rfl, hb2, by rw [hb1, bmp_lo]; exact one, u, rfl⟩
  have := astep_con (c := c) (A := ⟨gv, b - r, [], trM gv (ws.getD 1 0) u 2, 0, 0, cond gv 1 0⟩) rfl rfl rfl (mgo_2no (p := 1) (i := 1) (v := ws.getD 1 0) (u := u) (b := gv) (c := c) hb2 (.inr rfl) (by show ¬ (ws.set 1 _).getD 1 0 = _; rw [hb1]; exact hne)) rfl (by show ¬ b - (r : Int) = 0; omega)
  rw [this]
  simp only [show b - (r : Int) - 1 = b - ((r + 1 : Nat) : Int) by omega]

theorem TrS.end (h : TrS n b gv r 2 A ws) (hr : (r : Int) = b) : ∃ A', (∀ c, astep n 0 0 A (ws.set 1 (bmp (ws.getD 1 0))) c = (A', ws.set 1 (bmp (ws.getD 1 0)), c + 1)) ∧ (gv = true → A'.st = 1 ∧ A'.i = 1 ∧ A'.shelf = [1]) ∧ (gv = false → A'.st = 6 ∧ A'.i = 0 ∧ A'.shelf = []) := by
  obtain ⟨hb1, hb2⟩ := h.bump
  obtain ⟨pl, one, u, rfl⟩ := h
  have w1 := pl.words 1
  have hne := bmp_ne _ w1.1 w1.2
  refine ⟨_, fun c => astep_last (c := c) (A := ⟨gv, b - r, [], trM gv (ws.getD 1 0) u 2, 0, 0, cond gv 1 0⟩) rfl rfl rfl (mgo_2no (p := 1) (i := 1) (v := ws.getD 1 0) (u := u) (b := gv) (c := c) hb2 (.inr rfl) (by show ¬ (ws.set 1 _).getD 1 0 = _; rw [hb1]; exact hne)) rfl (by show b - (r : Int) = 0; omega), ?_, ?_⟩
  · rintro rfl; exact ⟨rfl, rfl, rfl⟩
  · rintro rfl; exact ⟨rfl, rfl, rfl⟩

/-- A store to the free list's word. -/
theorem store8 {x : Int} {w0 : World} (H : Bs w0 wr L gB gm n t ws c) (hp : Pl n ws) (hc : c ≤ 1000000) :
    Calls Try.prog 57 #[.pointer (some ⟨gm, 0, none⟩), .int .i64 1, .int .u64 x] wr fun e w' => e = .returned (.int .i64 0) ∧ ∃ L', Bs w0 w' L' gB gm n t (ws.set 1 x) (c + 1) ∧ Ext L L' wr ∧ FrL L (fun k => k = 1) wr w' := by
  refine (Store_ wr H.mem 1 x hc).mono ?_
  rintro e w' ⟨rfl, hM, hf⟩
  have hi := inR_head hp (p := 1) (.inr rfl)
  rw [ldE, if_pos hi]
  rw [stW, if_pos hi, ldN, if_pos hi] at hM
  have hfL : FrL L (fun k => k = 1) wr w' := Fr.mono hf (fun i _ h => h.1)
  exact ⟨rfl, re L wr 1, ⟨H.old.fr H.fr hfL (by decide), H.old.ext (ext_re _ _ _) H.fr.size, Fr.keep hfL H.cfg (by rw [H.lab]; decide), (ext_re L wr 1 gB H.cfg.lt).trans H.lab, hM.wide fun i hi hl => lab_gr hi hl⟩, ext_re _ _ _, hfL⟩
end Go.Proofs.Ytfglpigoljclbaa.H
