/- taglist, plain: in whatever turns machines go, both lists, and what is held, are all nodes, each once. -/
import Derived.Test.YtfglpigoljclbaaHSteps7
set_option linter.unusedVariables false
set_option linter.unusedSimpArgs false
namespace Go.Proofs.Ytfglpigoljclbaa.H
open Go.RowKit

def upd {α : Type} (f : Nat → α) (k : Nat) (v : α) : Nat → α := fun j => if j = k then v else f j
theorem upd_same {α : Type} (f : Nat → α) (k : Nat) (v : α) : upd f k v k = v := by simp [upd]
theorem upd_ne {α : Type} (f : Nat → α) {k j : Nat} (v : α) (h : ¬ j = k) : upd f k v j = f j := by simp [upd, h]

/-- How often x stands in all lists. -/
def cntAll (x : Int) (ls own : Nat → List Int) : Nat := (ls 0).count x + (ls 1).count x + ((own 0).count x + (own 1).count x + (own 2).count x + (own 3).count x)

/-- A machine that goes on, of a thread that holds the nodes own. -/
structure MOk (n t : Int) (ws : List Int) (cn : Nat → Nat) (own : List Int) (m : Mch) : Prop where
  st : m.st = 0
  ok : m.ok
  place : m.place = 0 ∨ m.place = 1
  pc : m.pc ≤ 2
  gives : m.give = true → m.i ∈ own ∧ (m.pc = 2 → ws.getD (2 * m.i).toNat 0 = m.w % 4294967296)
  takes : m.give = false → 1 ≤ m.pc → 1 ≤ m.i ∧ m.i ≤ n ∧ m.i = m.w % 4294967296 ∧ ∃ cw : Nat, cw ≤ cn m.place.toNat ∧ m.w / 4294967296 = (t + cw) % 4294967296 ∧
    (cw = cn m.place.toNat → ws.getD m.place.toNat 0 = m.w ∧ (m.pc = 2 → m.n % 4294967296 = ws.getD (2 * m.i).toNat 0 % 4294967296))

structure MInv (n t : Int) (T : Nat) (ws : List Int) (ls : Nat → List Int) (cn : Nat → Nat) (own : Nat → List Int) (ms : Nat → Option Mch) : Prop where
  pl : Pl n ws
  ch : ∀ p, p < 2 → IsCh n ws (ws.getD p 0 % 4294967296) (ls p)
  tag : ∀ p, p < 2 → ws.getD p 0 / 4294967296 = (t + cn p) % 4294967296
  cnt : ∀ p, p < 2 → cn p ≤ T
  all : ∀ x, cntAll x ls own = if 1 ≤ x ∧ x ≤ n then 1 else 0
  mach : ∀ k m, k < 4 → ms k = some m → MOk n t ws cn (own k) m

variable {n t : Int} {T : Nat} {ws : List Int} {ls own : Nat → List Int} {cn : Nat → Nat} {ms : Nat → Option Mch} {m : Mch} {k c : Nat}

theorem four {k : Nat} (h : k < 4) : k = 0 ∨ k = 1 ∨ k = 2 ∨ k = 3 := by omega
theorem two {k : Nat} (h : k < 2) : k = 0 ∨ k = 1 := by omega

theorem cnt_own (hk : k < 4) (x : Int) (h : x ∈ own k) : 1 ≤ (own 0).count x + (own 1).count x + (own 2).count x + (own 3).count x := by
  have := List.count_pos_iff.2 h
  rcases four hk with rfl | rfl | rfl | rfl <;> omega
theorem cnt_own2 {j : Nat} (hk : k < 4) (hj : j < 4) (hne : ¬ j = k) (x : Int) (h : x ∈ own k) (h' : x ∈ own j) : 2 ≤ (own 0).count x + (own 1).count x + (own 2).count x + (own 3).count x := by
  have := List.count_pos_iff.2 h
  have := List.count_pos_iff.2 h'
  rcases four hk with rfl | rfl | rfl | rfl <;> rcases four hj with rfl | rfl | rfl | rfl <;> first | omega | exact absurd rfl hne

theorem cnt_ls {p : Nat} (hp : p < 2) (x : Int) (h : x ∈ ls p) : 1 ≤ (ls 0).count x + (ls 1).count x := by
  have := List.count_pos_iff.2 h
  rcases two hp with rfl | rfl <;> omega

theorem MInv.le1 (H : MInv n t T ws ls cn own ms) (x : Int) : cntAll x ls own ≤ 1 := by
  rw [H.all]; split <;> omega

theorem MInv.own_in (H : MInv n t T ws ls cn own ms) (hk : k < 4) {x : Int} (h : x ∈ own k) : 1 ≤ x ∧ x ≤ n := by
  have h1 := cnt_own hk x h
  have h2 := H.all x
  unfold cntAll at h2
  by_cases hx : 1 ≤ x ∧ x ≤ n
  · exact hx
  · rw [if_neg hx] at h2; omega

theorem MInv.apart (H : MInv n t T ws ls cn own ms) (hk : k < 4) {p : Nat} (hp : p < 2) {x : Int} (h : x ∈ own k) (h' : x ∈ ls p) : False := by
  have h1 := cnt_own hk x h
  have h2 := cnt_ls hp x h'
  have h3 := H.le1 x
  unfold cntAll at h3
  omega

theorem MInv.apart2 (H : MInv n t T ws ls cn own ms) {j : Nat} (hk : k < 4) (hj : j < 4) (hne : ¬ j = k) {x : Int} (h : x ∈ own k) (h' : x ∈ own j) : False := by
  have h1 := cnt_own2 hk hj hne x h h'
  have h3 := H.le1 x
  unfold cntAll at h3
  omega

theorem cnt_upd_own (hk : k < 4) (x : Int) (l : List Int) : cntAll x ls (upd own k l) + (own k).count x = cntAll x ls own + l.count x := by
  unfold cntAll
  rcases four hk with rfl | rfl | rfl | rfl <;> simp [upd] <;> omega
theorem cnt_upd_ls {p : Nat} (hp : p < 2) (x : Int) (l : List Int) : cntAll x (upd ls p l) own + (ls p).count x = cntAll x ls own + l.count x := by
  unfold cntAll
  rcases two hp with rfl | rfl <;> simp [upd] <;> omega

/-- The first one of a list goes to a thread. -/
theorem cnt_take {p : Nat} (hp : p < 2) (hk : k < 4) (i : Int) (l : List Int) (hl : ls p = i :: l) (x : Int) : cntAll x (upd ls p l) (upd own k (i :: own k)) = cntAll x ls own := by
  have h1 := cnt_upd_own (ls := upd ls p l) (own := own) hk x (i :: own k)
  have h2 := cnt_upd_ls (ls := ls) (own := own) hp x l
  rw [hl] at h2
  simp only [List.count_cons] at h1 h2
  omega

theorem cnt_give {p : Nat} (hp : p < 2) (hk : k < 4) (i : Int) (hi : i ∈ own k) (x : Int) : cntAll x (upd ls p (i :: ls p)) (upd own k ((own k).erase i)) = cntAll x ls own := by
  have h1 := cnt_upd_own (ls := upd ls p (i :: ls p)) (own := own) hk x ((own k).erase i)
  have h2 := cnt_upd_ls (ls := ls) (own := own) hp x (i :: ls p)
  rw [List.count_erase] at h1
  have h3 := List.count_pos_iff.2 hi
  simp only [List.count_cons] at h2
  by_cases e : i = x
  · subst e; simp at h1 h2; omega
  · have e' : (i == x) = false := by simpa using e
    rw [e'] at h1 h2
    simp at h1 h2
    omega

theorem MInv.more (H : MInv n t T ws ls cn own ms) : MInv n t (T + 1) ws ls cn own ms :=
  ⟨H.pl, H.ch, H.tag, fun p hp => Nat.le_succ_of_le (H.cnt p hp), H.all, H.mach⟩

/-- A thread's machine is another one. -/
theorem MInv.put (H : MInv n t T ws ls cn own ms) (k : Nat) (o : Option Mch) (h : ∀ m, o = some m → MOk n t ws cn (own k) m) : MInv n t T ws ls cn own (upd ms k o) :=
  ⟨H.pl, H.ch, H.tag, H.cnt, H.all, fun j m hj hm => by
    by_cases e : j = k
    · subst e; rw [upd_same] at hm; exact h m hm
    · rw [upd_ne _ _ e] at hm; exact H.mach j m hj hm⟩

theorem MInv.drop (H : MInv n t T ws ls cn own ms) (k : Nat) : MInv n t T ws ls cn own (upd ms k none) := H.put k none (fun m h => by cases h)

theorem MInv.newTake (H : MInv n t T ws ls cn own ms) (k : Nat) {p : Int} (hp : p = 0 ∨ p = 1) : MInv n t T ws ls cn own (upd ms k (some ⟨false, p, 0, 0, 0, 0, 0⟩)) :=
  H.put k _ fun m h => by cases h; exact ⟨rfl, by simp [Mch.ok], hp, by simp, fun h => by simp at h, fun _ h => by simp at h⟩

theorem MInv.newGive (H : MInv n t T ws ls cn own ms) (hk : k < 4) {p i : Int} (hp : p = 0 ∨ p = 1) (hi : i ∈ own k) : MInv n t T ws ls cn own (upd ms k (some ⟨true, p, i, 0, 0, 0, 0⟩)) :=
  H.put k _ fun m h => by
    cases h
    have h1 := H.own_in hk hi
    have h2 := H.pl.n2
    exact ⟨rfl, ⟨by simp; omega, by simp; omega, by simp, by simp, by simp, by simp⟩, hp, by simp, fun _ => ⟨hi, fun e => by simp at e⟩, fun h => by simp at h⟩

/-- What a thread holds behind a step. -/
def heldBy (m m' : Mch) (l : List Int) : List Int := if m'.st = 1 then (if m.give then l.erase m.i else m'.i :: l) else l

/-- How a step ends. -/
def StepEnd (n : Int) (m m' : Mch) : Prop :=
  m'.give = m.give ∧ ((m'.st = 0) ∨ (m'.st = 3) ∨ (m'.st = 2 ∧ m.give = false ∧ m'.i = 0) ∨ (m'.st = 1 ∧ m.give = false ∧ 1 ≤ m'.i ∧ m'.i ≤ n) ∨ (m'.st = 1 ∧ m.give = true ∧ m'.i = m.i))

/-- The word of a list's place is written by a swap that was let through. -/
theorem MInv.swapped (H : MInv n t T ws ls cn own ms) (hk : k < 4) {p : Nat} (hp : p < 2) (i : Int) (l : List Int) (own' : List Int) (i0 : 0 ≤ i) (i1 : i < 4294967296)
    (hch : IsCh n ws i l) (hall : ∀ x, cntAll x (upd ls p l) (upd own k own') = cntAll x ls own) (hl : ∀ x ∈ l, 1 ≤ x ∧ x ≤ n) :
    MInv n t (T + 1) (ws.set p (nextWord (ws.getD p 0) i)) (upd ls p l) (upd cn p (cn p + 1)) (upd own k own') (upd ms k none) := by
  have hlen := H.pl.len
  have hn1 := H.pl.n1
  have hpl : p < ws.length := by omega
  obtain ⟨nw0, nw1⟩ := nextWord_in (ws.getD p 0) i i0 i1
  have hlink : ∀ y : Int, 1 ≤ y → (ws.set p (nextWord (ws.getD p 0) i)).getD (2 * y).toNat 0 = ws.getD (2 * y).toNat 0 := fun y hy => by
    rw [getD_set _ _ _ _ hpl, if_neg (by omega)]
  refine ⟨H.pl.set _ _ nw0 nw1, fun q hq => ?_, fun q hq => ?_, fun q hq => ?_, fun x => by rw [hall, H.all], fun j m hj hm => ?_⟩
  · by_cases e : q = p
    · subst e
      rw [upd_same, getD_set _ _ _ _ hpl, if_pos rfl, nextWord_lo _ _ i0 i1]
      exact hch.keep _ _ (fun y hy => hlink y (hl y hy).1)
    · rw [upd_ne _ _ e, getD_set _ _ _ _ hpl, if_neg e]
      have hc := H.ch q hq
      exact hc.keep _ _ (fun y hy => hlink y (hc.mem _ _ y hy).1)
  · by_cases e : q = p
    · subst e
      rw [upd_same, getD_set _ _ _ _ hpl, if_pos rfl, nextWord_hi _ _ i0 i1, H.tag q hq]
      have := Int.emod_nonneg (t + cn q) (b := 4294967296) (by decide)
      omega
    · rw [upd_ne _ _ e, getD_set _ _ _ _ hpl, if_neg e]
      exact H.tag q hq
  · have := H.cnt q hq
    by_cases e : q = p
    · subst e; rw [upd_same]; omega
    · rw [upd_ne _ _ e]; omega
  · by_cases e : j = k
    · subst e; rw [upd_same] at hm; cases hm
    · rw [upd_ne _ _ e] at hm
      obtain ⟨h1, h2, h3, h4, h5, h6⟩ := H.mach j m hj hm
      rw [upd_ne _ _ e]
      refine ⟨h1, h2, h3, h4, fun hg => ?_, fun hg hpc => ?_⟩
      · obtain ⟨h7, h8⟩ := h5 hg
        exact ⟨h7, fun h9 => by rw [hlink _ (H.own_in hj h7).1]; exact h8 h9⟩
      · obtain ⟨h7, h8, h9, cw, h10, h11, h12⟩ := h6 hg hpc
        refine ⟨h7, h8, h9, cw, ?_, h11, fun hcw => ?_⟩
        · by_cases e2 : m.place.toNat = p
          · rw [e2, upd_same]; rw [e2] at h10; omega
          · rw [upd_ne _ _ e2]; exact h10
        · by_cases e2 : m.place.toNat = p
          · rw [e2, upd_same] at hcw; rw [e2] at h10; omega
          · rw [upd_ne _ _ e2] at hcw
            obtain ⟨h13, h14⟩ := h12 hcw
            exact ⟨by rw [getD_set _ _ _ _ hpl, if_neg e2]; exact h13, fun h15 => by rw [hlink _ h7]; exact h14 h15⟩

/-- A node's link is written by a thread that holds the node. -/
theorem MInv.linked (H : MInv n t T ws ls cn own ms) (hk : k < 4) (i x : Int) (hi : i ∈ own k) (x0 : 0 ≤ x) (x1 : x < 18446744073709551616) :
    MInv n t T (ws.set (2 * i).toNat x) ls cn own (upd ms k none) := by
  obtain ⟨i1, i2⟩ := H.own_in hk hi
  have hlen := H.pl.len
  have hpl : (2 * i).toNat < ws.length := by omega
  have hhead : ∀ q, q < 2 → (ws.set (2 * i).toNat x).getD q 0 = ws.getD q 0 := fun q hq => by rw [getD_set _ _ _ _ hpl, if_neg (by omega)]
  have hlink : ∀ y : Int, 1 ≤ y → ¬ y = i → (ws.set (2 * i).toNat x).getD (2 * y).toNat 0 = ws.getD (2 * y).toNat 0 := fun y hy hne => by
    rw [getD_set _ _ _ _ hpl, if_neg (by omega)]
  refine ⟨H.pl.set _ _ x0 x1, fun q hq => ?_, fun q hq => by rw [hhead q hq]; exact H.tag q hq, H.cnt, H.all, fun j m hj hm => ?_⟩
  · rw [hhead q hq]
    have hc := H.ch q hq
    exact hc.keep _ _ (fun y hy => hlink y (hc.mem _ _ y hy).1 (fun e => H.apart hk hq hi (e ▸ hy)))
  · by_cases e : j = k
    · subst e; rw [upd_same] at hm; cases hm
    · rw [upd_ne _ _ e] at hm
      obtain ⟨h1, h2, h3, h4, h5, h6⟩ := H.mach j m hj hm
      refine ⟨h1, h2, h3, h4, fun hg => ?_, fun hg hpc => ?_⟩
      · obtain ⟨h7, h8⟩ := h5 hg
        exact ⟨h7, fun h9 => by rw [hlink _ (H.own_in hj h7).1 (fun e2 => H.apart2 hk hj e hi (e2 ▸ h7))]; exact h8 h9⟩
      · obtain ⟨h7, h8, h9, cw, h10, h11, h12⟩ := h6 hg hpc
        refine ⟨h7, h8, h9, cw, h10, h11, fun hcw => ?_⟩
        obtain ⟨h13, h14⟩ := h12 hcw
        have hpq : m.place.toNat < 2 := by omega
        have hc := H.ch _ hpq
        rw [h13, ← h9] at hc
        obtain ⟨l', hl', _⟩ := hc.cons (by omega)
        have hne : ¬ m.i = i := fun e2 => H.apart hk hpq hi (by rw [hl', e2]; simp)
        exact ⟨by rw [hhead _ hpq]; exact h13, fun h15 => by rw [hlink _ h7 hne]; exact h14 h15⟩

/-- One step of a thread's machine. -/
theorem meet_step (H : MInv n t T ws ls cn own ms) (hT : T < 1000000) (hk : k < 4) (hm : ms k = some m) (c : Nat) :
    ∃ m' ws' ls' cn', mgo n 0 0 m ws c = (m', ws', c + 1) ∧ MInv n t (T + 1) ws' ls' cn' (upd own k (heldBy m m' (own k))) (upd ms k (if m'.st = 0 then some m' else none)) ∧ StepEnd n m m' := by
  obtain ⟨h1, h2, h3, h4, h5, h6⟩ := H.mach k m hk hm
  obtain ⟨gv, p, i, v, pc, u, st⟩ := m
  simp only at h1 h3 h4 h5 h6
  obtain ⟨k0, k1, k2, k3, k4, k5⟩ := h2
  simp only at k0 k1 k2 k3 k4 k5
  subst h1
  have hpq : p.toNat < 2 := by omega
  have hsame : ∀ (l : List Int), own k = l → upd own k l = own := fun l e => by
    funext j
    by_cases e2 : j = k
    · subst e2; rw [upd_same, e]
    · rw [upd_ne _ _ e2]
  cases gv with
  | true =>
    obtain ⟨hi, h8⟩ := h5 rfl
    obtain ⟨i1, i2⟩ := H.own_in hk hi
    obtain rfl | rfl | rfl : pc = 0 ∨ pc = 1 ∨ pc = 2 := by omega
    · refine ⟨_, _, ls, cn, mgo_g0 H.pl h3 rfl i1 i2, ?_, by simp [StepEnd]⟩
      rw [show heldBy _ _ (own k) = own k from rfl, hsame _ rfl]
      obtain ⟨w0, w1⟩ := getD_in H.pl.words p.toNat
      exact H.more.put k _ fun m hm => by
        simp at hm; subst hm
        exact ⟨rfl, ⟨k0, k1, w0, w1, k4, k5⟩, h3, by simp, fun _ => ⟨hi, fun e => by simp at e⟩, fun e => by simp at e⟩
    · refine ⟨_, _, ls, cn, mgo_g1 H.pl i1 i2, ?_, by simp [StepEnd]⟩
      rw [show heldBy _ _ (own k) = own k from rfl, hsame _ rfl]
      have hL := (H.linked hk i (v % 4294967296) hi (by omega) (by omega)).more
      have hP := hL.put k (some ⟨true, p, i, v, 2, u, 0⟩) fun m hm => by
        simp at hm; subst hm
        refine ⟨rfl, ⟨k0, k1, k2, k3, k4, k5⟩, h3, by simp, fun _ => ⟨hi, fun e => ?_⟩, fun e => by simp at e⟩
        have := H.pl.len
        rw [getD_set _ _ _ _ (by show (2 * i).toNat < ws.length; omega), if_pos rfl]
      have e : upd (upd ms k none) k (some ⟨true, p, i, v, 2, u, 0⟩) = upd ms k (some ⟨true, p, i, v, 2, u, 0⟩) := by
        funext j; simp only [upd]; split <;> rfl
      rw [e] at hP
      exact hP
    · by_cases hv : ws.getD p.toNat 0 = v
      · have hlk := h8 rfl
        have hall := cnt_give (ls := ls) hpq hk i hi
        refine ⟨_, _, upd ls p.toNat (i :: ls p.toNat), upd cn p.toNat (cn p.toNat + 1), mgo_2yes H.pl h3 hv, ?_, by simp [StepEnd]⟩
        have := H.swapped hk hpq i (i :: ls p.toNat) ((own k).erase i) k0 k1 ⟨rfl, i1, i2, by
          rw [hlk, ← hv]
          have := H.ch _ hpq
          rwa [show ws.getD p.toNat 0 % 4294967296 % 4294967296 = ws.getD p.toNat 0 % 4294967296 by omega]⟩ hall (fun x hx => by
            rcases List.mem_cons.1 hx with rfl | hx
            · exact ⟨i1, i2⟩
            · exact (H.ch _ hpq).mem _ _ x hx)
        rw [hv] at this
        exact this
      · refine ⟨_, _, ls, cn, mgo_2no H.pl h3 hv, ?_, by simp [StepEnd]⟩
        rw [show heldBy _ _ (own k) = own k from rfl, hsame _ rfl]
        exact H.more.drop k
  | false =>
    obtain rfl | rfl | rfl : pc = 0 ∨ pc = 1 ∨ pc = 2 := by omega
    · have hc := H.ch _ hpq
      by_cases hz : ws.getD p.toNat 0 % 4294967296 = 0
      · refine ⟨_, _, ls, cn, mgo_t0_none H.pl h3 rfl hz, ?_, by simp [StepEnd]⟩
        rw [show heldBy _ _ (own k) = own k from rfl, hsame _ rfl]
        exact H.more.drop k
      · obtain ⟨l', hl', i1, i2, _⟩ := hc.cons hz
        refine ⟨_, _, ls, cn, mgo_t0 H.pl h3 rfl rfl i1 i2, ?_, by simp [StepEnd]⟩
        rw [show heldBy _ _ (own k) = own k from rfl, hsame _ rfl]
        obtain ⟨w0, w1⟩ := getD_in H.pl.words p.toNat
        exact H.more.put k _ fun m hm => by
          simp at hm; subst hm
          exact ⟨rfl, ⟨by simp only; omega, by simp only; omega, w0, w1, k4, k5⟩, h3, by simp, fun e => by simp at e, fun _ _ => ⟨i1, i2, rfl, cn p.toNat, Nat.le_refl _, H.tag _ hpq, fun _ => ⟨rfl, fun e => by simp at e⟩⟩⟩
    · obtain ⟨i1, i2, h9, cw, h10, h11, h12⟩ := h6 rfl (by omega)
      refine ⟨_, _, ls, cn, mgo_t1 H.pl i1 i2 rfl, ?_, by simp [StepEnd]⟩
      rw [show heldBy _ _ (own k) = own k from rfl, hsame _ rfl]
      obtain ⟨w0, w1⟩ := getD_in H.pl.words (2 * i).toNat
      exact H.more.put k _ fun m hm => by
        simp at hm; subst hm
        exact ⟨rfl, ⟨k0, k1, k2, k3, w0, w1⟩, h3, by simp, fun e => by simp at e, fun _ _ => ⟨i1, i2, h9, cw, h10, h11, fun e => ⟨(h12 e).1, fun _ => rfl⟩⟩⟩
    · obtain ⟨i1, i2, h9, cw, h10, h11, h12⟩ := h6 rfl (by omega)
      by_cases hv : ws.getD p.toNat 0 = v
      · have ht := H.tag _ hpq
        have hT2 := H.cnt _ hpq
        rw [hv] at ht
        have hcw : cw = cn p.toNat := by omega
        obtain ⟨_, h14⟩ := h12 hcw
        have h15 := h14 rfl
        have hc := H.ch _ hpq
        rw [hv, ← h9] at hc
        obtain ⟨l', hl', _, _, hc'⟩ := hc.cons (by omega)
        have hall := cnt_take (own := own) hpq hk i l' hl'
        refine ⟨_, _, upd ls p.toNat l', upd cn p.toNat (cn p.toNat + 1), mgo_2yes H.pl h3 hv, ?_, by simp [StepEnd]; omega⟩
        have := H.swapped hk hpq (u % 4294967296) l' (i :: own k) (by omega) (by omega) (by rw [h15]; exact hc') hall (hc'.mem _ _)
        rw [hv] at this
        exact this
      · refine ⟨_, _, ls, cn, mgo_2no H.pl h3 hv, ?_, by simp [StepEnd]⟩
        rw [show heldBy _ _ (own k) = own k from rfl, hsame _ rfl]
        exact H.more.drop k

/-- From the counts: each node once. -/
theorem all_perm {n : Int} (hn : 0 ≤ n) (l : List Int) (h : ∀ x, l.count x = if 1 ≤ x ∧ x ≤ n then 1 else 0) : l.Nodup ∧ (∀ x ∈ l, 1 ≤ x ∧ x ≤ n) ∧ (l.length : Int) = n := by
  have hnd : l.Nodup := List.nodup_iff_count.2 fun x => by rw [h]; split <;> omega
  have hin : ∀ x ∈ l, 1 ≤ x ∧ x ≤ n := fun x hx => by
    have := List.count_pos_iff.2 hx
    rw [h] at this
    by_cases e : 1 ≤ x ∧ x ≤ n
    · exact e
    · rw [if_neg e] at this; omega
  refine ⟨hnd, hin, ?_⟩
  have hp : l.Perm ((List.range n.toNat).map fun (j : Nat) => (j : Int) + 1) := by
    rw [List.perm_iff_count]
    intro x
    rw [h]
    have hnd2 : ((List.range n.toNat).map fun (j : Nat) => (j : Int) + 1).Nodup := by
      refine List.Pairwise.map _ (fun a b hab => ?_) (List.nodup_range)
      omega
    have h2 := List.nodup_iff_count.1 hnd2 x
    by_cases e : 1 ≤ x ∧ x ≤ n
    · rw [if_pos e]
      have : x ∈ (List.range n.toNat).map fun (j : Nat) => (j : Int) + 1 := by
        rw [List.mem_map]
        exact ⟨(x - 1).toNat, by simp; omega, by omega⟩
      have := List.count_pos_iff.2 this
      omega
    · rw [if_neg e]
      symm
      rw [List.count_eq_zero]
      intro hx
      rw [List.mem_map] at hx
      obtain ⟨j, hj, rfl⟩ := hx
      simp at hj
      omega
  have := hp.length_eq
  simp at this
  omega
end Go.Proofs.Ytfglpigoljclbaa.H
