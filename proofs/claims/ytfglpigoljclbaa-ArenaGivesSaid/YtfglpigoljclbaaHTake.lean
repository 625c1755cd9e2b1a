/- taglist: one try at a list: what a step does, in plain terms, and the two kinds of machines. -/
import Derived.Test.YtfglpigoljclbaaHMemO
import Derived.Test.YtfglpigoljclbaaHLay
import Derived.Test.YtfglpigoljclbaaHPack
import Derived.Test.YtfglpigoljclbaaHChain
set_option linter.unusedVariables false
set_option linter.unusedSimpArgs false
namespace Go.Proofs.Ytfglpigoljclbaa.H
open Go.RowKit
attribute [local go_sem ↓] Go.wp_at_zero Go.wp_at_succ

/-- A machine: a Give, or a Take; its list's place; its node; what was loaded first; which step comes next (0, 1, 2); what a Take loaded then; its status. -/
structure Mch where
  give : Bool
  place : Int
  i : Int
  w : Int
  pc : Nat
  n : Int
  st : Int

instance (n s h : Int) : Decidable (cfgOk n s h) := by unfold cfgOk; infer_instance

/-- Where node i's link lies, for any config. -/
def nextAt (n s h i : Int) : Int := if cfgOk n s h ∧ 1 ≤ i ∧ i ≤ n then 2 * i else -1

/-- The node that comes first then. -/
def Mch.first (m : Mch) : Int := if m.give then m.i else m.n % 4294967296

/-- One step, of a machine that goes on: the machine behind it, the words, and how many accesses there are. -/
def mstep (n s h : Int) (m : Mch) (ws : List Int) (k : Nat) : Mch × List Int × Nat :=
  match m.pc with
  | 0 =>
    if m.give then
      if nextAt n s h m.i < 0 then ({ m with st := 5 }, ws, k)
      else if inR ws m.place then ({ m with w := ldV ws m.place, pc := 1 }, ws, ldN k ws m.place)
      else ({ m with st := 5 }, ws, ldN k ws m.place)
    else
      let m' := { m with w := ldV ws m.place, i := ldV ws m.place % 4294967296 }
      if inR ws m.place then
        if m'.i = (0 : Int) then ({ m' with st := 2 }, ws, ldN k ws m.place)
        else if nextAt n s h m'.i < 0 then ({ m' with st := 5 }, ws, ldN k ws m.place)
        else ({ m' with pc := 1 }, ws, ldN k ws m.place)
      else ({ m' with st := 5 }, ws, ldN k ws m.place)
  | 1 =>
    let a := nextAt n s h m.i
    if m.give then
      if inR ws a then ({ m with pc := 2 }, stW ws a (m.w % 4294967296), ldN k ws a)
      else ({ m with st := 5 }, ws, ldN k ws a)
    else
      if inR ws a then ({ m with pc := 2, n := ldV ws a }, ws, ldN k ws a)
      else ({ m with st := 5 }, ws, ldN k ws a)
  | _ =>
    let x := nextWord m.w m.first
    if inR ws m.place then
      if swB ws m.place m.w then ({ m with st := 1 }, swW ws m.place m.w x, ldN k ws m.place)
      else ({ m with st := 3 }, ws, ldN k ws m.place)
    else ({ m with st := 5 }, ws, ldN k ws m.place)

/-- A step of any machine: one that has ended does nothing. -/
def mgo (n s h : Int) (m : Mch) (ws : List Int) (k : Nat) : Mch × List Int × Nat := if m.st = 0 then mstep n s h m ws k else (m, ws, k)

/-- The node that is told. -/
def Mch.told (m : Mch) : Int := if m.st = 1 then m.i else 0

/-- The machine's numbers are what their types bear. -/
def Mch.ok (m : Mch) : Prop := 0 ≤ m.i ∧ m.i < 4294967296 ∧ 0 ≤ m.w ∧ m.w < 18446744073709551616 ∧ 0 ≤ m.n ∧ m.n < 18446744073709551616

/-- What a machine's field 'next' holds. -/
def NextFn (w : World) (S : Nat → Prop) (g : Nat) (m : Mch) (f : Value) : Prop :=
  (m.give = true ∧ m.pc = 0 ∧ f = .func (.func 79) #[.pointer (some ⟨g, 0, none⟩)] #[]) ∨
  (m.give = true ∧ m.pc = 1 ∧ f = .func (.func 97) #[.pointer (some ⟨g, 0, none⟩)] #[]) ∨
  (m.give = true ∧ m.pc = 2 ∧ ∃ b, f = .func (.func 106) #[] #[.pointer (some ⟨b, 0, none⟩)] ∧ Blk w b #[.pointer (some ⟨g, 0, none⟩)] 59 ∧ S b) ∨
  (m.give = false ∧ m.pc = 0 ∧ f = .func (.func 78) #[.pointer (some ⟨g, 0, none⟩)] #[]) ∨
  (m.give = false ∧ m.pc = 1 ∧ f = .func (.func 96) #[.pointer (some ⟨g, 0, none⟩)] #[]) ∨
  (m.give = false ∧ m.pc = 2 ∧ ∃ b c, f = .func (.func 104) #[] #[.pointer (some ⟨b, 0, none⟩), .pointer (some ⟨c, 0, none⟩)] ∧ Blk w b #[.pointer (some ⟨g, 0, none⟩)] 58 ∧ S b ∧ Blk w c #[.int .u64 m.n] 26 ∧ S c)

def mty (m : Mch) : TypeId := if m.give then 132 else 131

/-- The machine at block g, for a config; all its blocks lie in S. -/
def MchAt (w : World) (S : Nat → Prop) (g : Nat) (n s h t : Int) (m : Mch) : Prop :=
  S g ∧ m.ok ∧ ∃ f, Blk w g #[.int .i64 n, .int .i64 s, .int .i64 h, .int .u32 t, .int .i64 m.place, .int .u32 m.i, .int .u64 m.w, f, .int .i64 m.st] (mty m) ∧ (m.st = 0 → NextFn w S g m f)

variable {w a b : World} {S T : Nat → Prop} {g k : Nat} {ws : List Int} {m : Mch} {n s h t : Int}

theorem NextFn.move {f : Value} (H : NextFn a S g m f) (hf : Fr T a b) (hd : ∀ i, S i → ¬ T i) : NextFn b S g m f := by
  rcases H with h | h | ⟨h1, h2, p, h3, h4, h5⟩ | h | h | ⟨h1, h2, p, q, h3, h4, h5, h6, h7⟩
  · exact .inl h
  · exact .inr (.inl h)
  · exact .inr (.inr (.inl ⟨h1, h2, p, h3, hf.keep h4 (hd _ h5), h5⟩))
  · exact .inr (.inr (.inr (.inl h)))
  · exact .inr (.inr (.inr (.inr (.inl h))))
  · exact .inr (.inr (.inr (.inr (.inr ⟨h1, h2, p, q, h3, hf.keep h4 (hd _ h5), h5, hf.keep h6 (hd _ h7), h7⟩))))

theorem NextFn.wide {f : Value} (H : NextFn a S g m f) (hs : ∀ i, S i → i < a.heap.size → T i) : NextFn a T g m f := by
  rcases H with h | h | ⟨h1, h2, p, h3, h4, h5⟩ | h | h | ⟨h1, h2, p, q, h3, h4, h5, h6, h7⟩
  · exact .inl h
  · exact .inr (.inl h)
  · exact .inr (.inr (.inl ⟨h1, h2, p, h3, h4, hs _ h5 h4.lt⟩))
  · exact .inr (.inr (.inr (.inl h)))
  · exact .inr (.inr (.inr (.inr (.inl h))))
  · exact .inr (.inr (.inr (.inr (.inr ⟨h1, h2, p, q, h3, h4, hs _ h5 h4.lt, h6, hs _ h7 h6.lt⟩))))

theorem MchAt.move (H : MchAt a S g n s h t m) (hf : Fr T a b) (hd : ∀ i, S i → ¬ T i) : MchAt b S g n s h t m := by
  obtain ⟨h1, h2, f, h3, h4⟩ := H
  exact ⟨h1, h2, f, hf.keep h3 (hd _ h1), fun e => (h4 e).move hf hd⟩

theorem MchAt.wide (H : MchAt a S g n s h t m) (hs : ∀ i, S i → i < a.heap.size → T i) : MchAt a T g n s h t m := by
  obtain ⟨h1, h2, f, h3, h4⟩ := H
  exact ⟨hs _ h1 h3.lt, h2, f, h3, fun e => (h4 e).wide hs⟩

theorem NewTake_ (w : World) (n s h t at' : Int) :
    Calls Try.prog 45 #[cfg n s h t, .int .i64 at'] w fun e w' => ∃ g, e = .returned (.pointer (some ⟨g, 0, none⟩)) ∧ MchAt w' (New w.heap.size) g n s h t ⟨false, at', 0, 0, 0, 0, 0⟩ ∧ Fr No w w' := by
  go_enter Try.func45, Try.ntmps45
  go_wp2_with fail
  go_ret
  exact ⟨_, rfl, ⟨by simp only [New]; omega, by simp [Mch.ok], _, blk_at _ (by simp), fun _ => by simp [NextFn]⟩, by (repeat (first | exact Fr.refl _ _ | refine Fr.setCell ?_ (.inl (by first | (simp; done) | (simp; omega) | omega)) _ | refine Fr.alloc ?_ _ | refine Fr.drew ?_ | refine Fr.drewN ?_ _ | refine Fr.thenNo ?_ (by assumption)))⟩

theorem NewGive_ (w : World) (n s h t at' i : Int) (h0 : 0 ≤ i) (h1 : i < 4294967296) :
    Calls Try.prog 47 #[cfg n s h t, .int .i64 at', .int .u32 i] w fun e w' => ∃ g, e = .returned (.pointer (some ⟨g, 0, none⟩)) ∧ MchAt w' (New w.heap.size) g n s h t ⟨true, at', i, 0, 0, 0, 0⟩ ∧ Fr No w w' := by
  go_enter Try.func47, Try.ntmps47
  go_wp2_with fail
  go_ret
  exact ⟨_, rfl, ⟨by simp only [New]; omega, by simp [Mch.ok, h0, h1], _, blk_at _ (by simp), fun _ => by simp [NextFn]⟩, by (repeat (first | exact Fr.refl _ _ | refine Fr.setCell ?_ (.inl (by first | (simp; done) | (simp; omega) | omega)) _ | refine Fr.alloc ?_ _ | refine Fr.drew ?_ | refine Fr.drewN ?_ _ | refine Fr.thenNo ?_ (by assumption)))⟩

theorem Next_any (w : World) (n s h t i : Int) (i0 : 0 ≤ i) (i2 : i < 4294967296) :
    Calls Try.prog 29 #[cfg n s h t, .int .u32 i] w fun e w' => e = .returned (.int .i64 (nextAt n s h i)) ∧ Fr No w w' := by
  by_cases hk : cfgOk n s h ∧ 1 ≤ i ∧ i ≤ n
  · rw [nextAt, if_pos hk]
    exact Next_in w n s h t i hk.1 hk.2.1 hk.2.2
  · rw [nextAt, if_neg hk]
    refine Next_out w n s h t i i0 i2 ?_
    by_cases ok : cfgOk n s h
    · have : ¬ (1 ≤ i ∧ i ≤ n) := fun e => hk ⟨ok, e⟩
      right; omega
    · exact .inl ok
end Go.Proofs.Ytfglpigoljclbaa.H
