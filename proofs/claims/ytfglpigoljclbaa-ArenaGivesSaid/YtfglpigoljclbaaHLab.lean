/- Whose block is whose: blocks bear labels; a memory and each machine own the blocks of one label. -/
import Derived.Test.YtfglpigoljclbaaHTake
import Derived.Test.YtfglpigoljclbaaHRef2
set_option linter.unusedVariables false
set_option linter.unusedSimpArgs false
namespace Go.Proofs.Ytfglpigoljclbaa.H
open Go.RowKit

/-- The blocks of label k. -/
def Lab (L : Nat → Nat) (w : World) (k : Nat) : Nat → Prop := fun i => L i = k ∧ i < w.heap.size

/-- Blocks that are made from w on bear label k. -/
def re (L : Nat → Nat) (w : World) (k : Nat) : Nat → Nat := fun i => if i < w.heap.size then L i else k

/-- The same labels, for all blocks of w. -/
def Ext (L L' : Nat → Nat) (w : World) : Prop := ∀ i, i < w.heap.size → L' i = L i

theorem Ext.refl (L : Nat → Nat) (w : World) : Ext L L w := fun _ _ => rfl
theorem ext_re (L : Nat → Nat) (w : World) (k : Nat) : Ext L (re L w k) w := fun i hi => by rw [re, if_pos hi]
theorem ext_re' {L : Nat → Nat} {w w' : World} {k : Nat} (hs : w.heap.size ≤ w'.heap.size) : Ext L (re L w' k) w := fun i hi => by rw [re, if_pos (by omega)]
theorem Ext.trans {L L' L'' : Nat → Nat} {w w' : World} (h : Ext L L' w) (h' : Ext L' L'' w') (hs : w.heap.size ≤ w'.heap.size) : Ext L L'' w := fun i hi => (h' i (by omega)).trans (h i hi)

variable {w w' a b : World} {S T : Nat → Prop} {g k c kM kX : Nat} {ws : List Int} {m : Mch} {n s h t : Int} {L L' : Nat → Nat}

theorem lab_gr {i : Nat} (hi : Gr (Lab L w k) w i) (hl : i < w'.heap.size) : Lab (re L w k) w' k i := by
  rcases hi with ⟨h1, h2⟩ | h1
  · exact ⟨by rw [re, if_pos h2]; exact h1, hl⟩
  · exact ⟨by rw [re, if_neg (by omega)], hl⟩

theorem lab_ext {i : Nat} (h : Ext L L' w) (hs : w.heap.size ≤ w'.heap.size) (hi : Lab L w k i) : Lab L' w' k i := ⟨(h i hi.2).trans hi.1, by have := hi.2; omega⟩

/-- Only blocks of these labels were written. -/
def FrL (L : Nat → Nat) (p : Nat → Prop) (w w' : World) : Prop := Fr (fun i => p (L i)) w w'

theorem MemAt.lab (H : MemAt w (Lab L w k) g ws c) (hf : FrL L S w w') (he : Ext L L' w) (hk : ¬ S k) : MemAt w' (Lab L' w' k) g ws c :=
  (H.move hf (fun i hi h => hk (by rw [← hi.1]; exact h))).wide fun i hi _ => lab_ext he hf.size hi
theorem RefAt.lab (H : RefAt w (Lab L w k) g ws c) (hf : FrL L S w w') (he : Ext L L' w) (hk : ¬ S k) : RefAt w' (Lab L' w' k) g ws c :=
  (H.move hf (fun i hi h => hk (by rw [← hi.1]; exact h))).wide fun i hi _ => lab_ext he hf.size hi
theorem MchAt.lab (H : MchAt w (Lab L w k) g n s h t m) (hf : FrL L S w w') (he : Ext L L' w) (hk : ¬ S k) : MchAt w' (Lab L' w' k) g n s h t m :=
  (H.move hf (fun i hi h => hk (by rw [← hi.1]; exact h))).wide fun i hi _ => lab_ext he hf.size hi

theorem FrL.ofNo (h : Fr No a b) : FrL L S a b := Fr.ofNo h
theorem FrL.then (h : FrL L S w a) (h' : FrL L' S a b) (he : Ext L L' w) : FrL L S w b :=
  Fr.trans h h' fun i hi hp => by rw [← he i hi]; exact hp
theorem FrL.mono (h : FrL L S w a) (hs : ∀ i, S i → T i) : FrL L T w a := Fr.mono h fun i _ hp => hs _ hp

theorem LoadL (w : World) (H : MemAt w (Lab L w k) g ws c) (i : Int) (hn : c ≤ 1000000) :
    Calls Try.prog 95 #[.pointer (some ⟨g, 0, none⟩), .int .i64 i] w fun e w' => e = .returned (.tuple #[.int .u64 (ldV ws i), .int .i64 (ldE ws i)]) ∧ MemAt w' (Lab (re L w k) w' k) g ws (ldN c ws i) ∧ FrL L (· = k) w w' :=
  (Load_ w H i hn).mono fun e w' ⟨h1, h2, h3⟩ => ⟨h1, h2.wide fun i hi hl => lab_gr hi hl, h3.mono fun i _ hi => hi.1⟩
theorem StoreL (w : World) (H : MemAt w (Lab L w k) g ws c) (i x : Int) (hn : c ≤ 1000000) :
    Calls Try.prog 57 #[.pointer (some ⟨g, 0, none⟩), .int .i64 i, .int .u64 x] w fun e w' => e = .returned (.int .i64 (ldE ws i)) ∧ MemAt w' (Lab (re L w k) w' k) g (stW ws i x) (ldN c ws i) ∧ FrL L (· = k) w w' :=
  (Store_ w H i x hn).mono fun e w' ⟨h1, h2, h3⟩ => ⟨h1, h2.wide fun i hi hl => lab_gr hi hl, h3.mono fun i _ hi => hi.1⟩
theorem SwapL (w : World) (H : MemAt w (Lab L w k) g ws c) (i o x : Int) (hn : c ≤ 1000000) :
    Calls Try.prog 108 #[.pointer (some ⟨g, 0, none⟩), .int .i64 i, .int .u64 o, .int .u64 x] w fun e w' => e = .returned (.tuple #[.bool (swB ws i o), .int .i64 (ldE ws i)]) ∧ MemAt w' (Lab (re L w k) w' k) g (swW ws i o x) (ldN c ws i) ∧ FrL L (· = k) w w' :=
  (Swap_ w H i o x hn).mono fun e w' ⟨h1, h2, h3⟩ => ⟨h1, h2.wide fun i hi hl => lab_gr hi hl, h3.mono fun i _ hi => hi.1⟩
theorem RLoadL (w : World) (H : RefAt w (Lab L w k) g ws c) (i : Int) (hn : c ≤ 1000000) :
    Calls Try.prog 75 #[.pointer (some ⟨g, 0, none⟩), .int .i64 i] w fun e w' => e = .returned (.tuple #[.int .u64 (ldV ws i), .int .i64 (ldE ws i)]) ∧ RefAt w' (Lab (re L w k) w' k) g ws (ldN c ws i) ∧ FrL L (· = k) w w' :=
  (RLoad_ w H i hn).mono fun e w' ⟨h1, h2, h3⟩ => ⟨h1, h2.wide fun i hi hl => lab_gr hi hl, h3.mono fun i _ hi => hi.1⟩
theorem RStoreL (w : World) (H : RefAt w (Lab L w k) g ws c) (i x : Int) (hn : c ≤ 1000000) :
    Calls Try.prog 72 #[.pointer (some ⟨g, 0, none⟩), .int .i64 i, .int .u64 x] w fun e w' => e = .returned (.int .i64 (ldE ws i)) ∧ RefAt w' (Lab (re L w k) w' k) g (stW ws i x) (ldN c ws i) ∧ FrL L (· = k) w w' :=
  (RStore_ w H i x hn).mono fun e w' ⟨h1, h2, h3⟩ => ⟨h1, h2.wide fun i hi hl => lab_gr hi hl, h3.mono fun i _ hi => hi.1⟩
theorem RSwapL (w : World) (H : RefAt w (Lab L w k) g ws c) (i o x : Int) (hn : c ≤ 1000000) :
    Calls Try.prog 76 #[.pointer (some ⟨g, 0, none⟩), .int .i64 i, .int .u64 o, .int .u64 x] w fun e w' => e = .returned (.tuple #[.bool (swB ws i o), .int .i64 (ldE ws i)]) ∧ RefAt w' (Lab (re L w k) w' k) g (swW ws i o x) (ldN c ws i) ∧ FrL L (· = k) w w' :=
  (RSwap_ w H i o x hn).mono fun e w' ⟨h1, h2, h3⟩ => ⟨h1, h2.wide fun i hi hl => lab_gr hi hl, h3.mono fun i _ hi => hi.1⟩
end Go.Proofs.Ytfglpigoljclbaa.H
