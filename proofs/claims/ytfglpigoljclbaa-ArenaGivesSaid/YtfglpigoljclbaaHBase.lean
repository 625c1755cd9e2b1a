/- Words of this seat's proofs: a frame relation between worlds ('what is not in S stays'), blocks known whole, and the small facts on them that the walks use. -/
import Derived.WalkKit
import Derived.WalkLawsBesides
import Derived.WalkSpells
import Derived.Laws.EntriesVeiled
import Derived.KernelRfl
import Derived.Lib.Hide
namespace Go.Proofs.Ytfglpigoljclbaa.H
open Go.RowKit

/-- From w to w' only blocks in S, and new ones, were written. -/
structure Fr (S : Nat → Prop) (w w' : World) : Prop where
  os : w'.os = w.os
  tape : w'.tape = w.tape
  output : w'.output = w.output
  size : w.heap.size ≤ w'.heap.size
  block : ∀ k, k < w.heap.size → ¬ S k → w'.heap[k]? = w.heap[k]?

/-- No block. -/
def No : Nat → Prop := fun _ => False

variable {S S' : Nat → Prop} {a b c w w' : World}

theorem Fr.refl (S : Nat → Prop) (w : World) : Fr S w w := ⟨rfl, rfl, rfl, Nat.le_refl _, fun _ _ _ => rfl⟩

theorem Fr.trans (h : Fr S a b) (k : Fr S' b c) (hs : ∀ i, i < a.heap.size → S' i → S i) : Fr S a c :=
  ⟨k.os.trans h.os, k.tape.trans h.tape, k.output.trans h.output, Nat.le_trans h.size k.size,
    fun i hi hn => (k.block i (Nat.lt_of_lt_of_le hi h.size) (fun h' => hn (hs i hi h'))).trans (h.block i hi hn)⟩

theorem Fr.then (h : Fr S a b) (k : Fr S b c) : Fr S a c := h.trans k fun _ _ h => h

theorem Fr.thenNo (h : Fr S a b) (k : Fr No b c) : Fr S a c := h.trans k fun _ _ h => h.elim

theorem Fr.mono (h : Fr S a b) (hs : ∀ i, i < a.heap.size → S i → S' i) : Fr S' a b :=
  ⟨h.os, h.tape, h.output, h.size, fun i hi hn => h.block i hi fun h' => hn (hs i hi h')⟩

theorem Fr.ofNo (h : Fr No a b) : Fr S a b := h.mono fun _ _ h => h.elim

theorem Fr.drew (h : Fr S a w) : Fr S a w.drew := ⟨h.os, h.tape, h.output, h.size, h.block⟩
theorem Fr.drewN (h : Fr S a w) (n : Nat) : Fr S a (w.drewN n) := ⟨h.os, h.tape, h.output, h.size, h.block⟩

theorem Fr.alloc (h : Fr S a w) (o : Obj) : Fr S a (w.alloc o) :=
  h.then ⟨rfl, rfl, rfl, by simp, fun k hk _ => Below.heap_alloc _ _ _ hk⟩

theorem Fr.setCell (h : Fr S a w) {p : Addr} (hp : a.heap.size ≤ p.block ∨ S p.block) (u : Value) : Fr S a (w.setCell p u) :=
  ⟨h.os, h.tape, h.output, by simpa [World.setCell] using h.size, fun k hk hn => by
    rw [Below.heap_setCell _ _ _ _ (by rintro rfl; rcases hp with hp | hp; exact absurd hk (by omega); exact hn hp)]
    exact h.block k hk hn⟩

theorem Fr.grown (h : Fr S a w) {row : Option Nat} (hg : w.grownBy w' row) (hr : ∀ k, row = some k → a.heap.size ≤ k ∨ S k) : Fr S a w' :=
  ⟨hg.os.trans h.os, hg.tape.trans h.tape, hg.output.trans h.output, Nat.le_trans h.size hg.size, fun k hk hn =>
    (hg.block k (Nat.lt_of_lt_of_le hk h.size) (fun e => by rcases hr k e.symm with hr | hr; exact absurd hk (by omega); exact hn hr)).trans (h.block k hk hn)⟩

theorem Fr.below (h : Fr No a b) : Below a.heap.size a b := ⟨h.os, h.tape, h.output, h.size, fun k hk => h.block k hk id⟩

theorem Fr.ofBelow (h : Below a.heap.size a b) : Fr No a b := ⟨h.os, h.tape, h.output, h.size, fun k hk _ => h.block k hk⟩

theorem Fr.blk (h : Fr S a b) {i : Nat} {o : Obj} (hb : a.heap[i]? = some o) (hi : ¬ S i) : b.heap[i]? = some o :=
  (h.block i (lt_of_block hb) hi).trans hb

theorem Fr.blkNo (h : Fr No a b) {i : Nat} {o : Obj} (hb : a.heap[i]? = some o) : b.heap[i]? = some o := h.blk hb id

theorem Fr.cell (h : Fr S a b) {p : Addr} (hp : p.block < a.heap.size) (hi : ¬ S p.block) : b.cell? p = a.cell? p := World.cell?_of_block (h.block _ hp hi)
theorem Fr.frozen (h : Fr S a b) {p : Addr} (hp : p.block < a.heap.size) (hi : ¬ S p.block) : b.frozen? p = a.frozen? p := World.frozen?_of_block (h.block _ hp hi)

/-- Block b is just these cells, none frozen. -/
def Blk (w : World) (b : Nat) (cs : Array Value) (t : TypeId) : Prop := w.heap[b]? = some (.cells cs t (0, 0))

section
variable {i j g : Nat} {cs : Array Value} {t : TypeId} {o : Obj}
theorem Blk.cells (h : Blk w g cs t) : ∀ i, w.cell? ⟨g, i, none⟩ = cs[i]? := fun i => by rw [Blk] at h; simp [World.cell?, h]
theorem Blk.free (h : Blk w g cs t) : ∀ i, w.frozen? ⟨g, i, none⟩ = false := fun i => by rw [Blk] at h; simp [World.frozen?, h]
theorem Blk.lt (h : Blk w g cs t) : g < w.heap.size := lt_of_block h
theorem Blk.set (h : Blk w g cs t) (i : Nat) (u : Value) : Blk (w.setCell ⟨g, i, none⟩ u) g (cs.setIfInBounds i u) t := by
  rw [Blk] at h ⊢
  simp [World.setCell, Array.getElem?_modify, h]
theorem Blk.far (h : Blk w g cs t) {p : Addr} (hp : g ≠ p.block) (u : Value) : Blk (w.setCell p u) g cs t := (Below.heap_setCell w p u g hp).trans h
theorem Blk.alloc (h : Blk w g cs t) (o : Obj) : Blk (w.alloc o) g cs t := (Below.heap_alloc w o g (lt_of_block h)).trans h
theorem Blk.drew (h : Blk w g cs t) : Blk w.drew g cs t := h
theorem Fr.keep (h : Fr S a b) (B : Blk a g cs t) (hi : ¬ S g) : Blk b g cs t := h.blk B hi
theorem Fr.keepNo (h : Fr No a b) (B : Blk a g cs t) : Blk b g cs t := h.blk B id
theorem blk_new (w : World) (cs : Array Value) (t : TypeId) : Blk (w.alloc (.cells cs t)) w.heap.size cs t := heap_alloc_new w _
theorem blk_at (w : World) {cs : Array Value} {t : TypeId} {k : Nat} (hk : k = w.heap.size) : Blk (w.alloc (.cells cs t)) k cs t := by subst hk; exact heap_alloc_new w _
theorem blk_ne {g' : Nat} {t' : TypeId} {cs' : Array Value} (h : Blk w g cs t) (h' : Blk w g' cs' t') (hne : t ≠ t') : g ≠ g' := by
  rintro rfl
  have e := Eq.trans (Eq.symm h) h'
  simp at e
  exact hne e.2
end

end Go.Proofs.Ytfglpigoljclbaa.H
