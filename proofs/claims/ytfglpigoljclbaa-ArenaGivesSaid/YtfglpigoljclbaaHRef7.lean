/- hatstandref7: the document's machine. -/
import Derived.Test.YtfglpigoljclbaaHRef1
import Derived.Deep.RegionHeld3
set_option linter.unusedVariables false
set_option linter.unusedSimpArgs false
namespace Go.Proofs.Ytfglpigoljclbaa.H
open Go.RowKit
attribute [local go_sem ↓] Go.wp_at_zero Go.wp_at_succ
variable {w w' a b : World} {S T : Nat → Prop} {g gm k c kM kX : Nat} {ws : List Int} {m : Mch} {n s h t : Int} {L L' : Nat → Nat}

/-- The document's machine's cells. -/
def rcells (n s h t place : Int) (give : Bool) (i pc wv nx st : Int) : Array Value :=
  #[.int .i64 n, .int .i64 s, .int .i64 h, .int .u32 t, .int .i64 place, .bool give, .int .u32 i, .int .i64 pc, .int .u64 wv, .int .u32 nx, .int .i64 st]

/-- The document's machine at block g does what m does. -/
def RchAt (w : World) (S : Nat → Prop) (g : Nat) (n s h t : Int) (m : Mch) : Prop :=
  S g ∧ m.ok ∧ ∃ i pc wv nx, Blk w g (rcells n s h t m.place m.give i pc wv nx m.st) 119 ∧ (m.st = 1 → i = m.i) ∧
    (m.st = 0 → i = m.i ∧ pc = m.pc ∧ m.pc ≤ 2 ∧ (1 ≤ m.pc → wv = m.w) ∧ (m.pc = 2 → nx = m.first))

theorem RchAt.lab (H : RchAt w (Lab L w k) g n s h t m) (hf : FrL L S w w') (he : Ext L L' w) (hk : ¬ S k) : RchAt w' (Lab L' w' k) g n s h t m := by
  obtain ⟨h1, h2, i, pc, wv, nx, h3, h4⟩ := H
  exact ⟨lab_ext he hf.size h1, h2, i, pc, wv, nx, Fr.keep hf h3 (fun h => hk (by rw [← h1.1]; exact h)), h4⟩

theorem rend_ (w : World) (place : Int) (give : Bool) (i pc wv nx st st' : Int) (hB : Blk w g (rcells n s h t place give i pc wv nx st) 119) :
    Calls Try.prog 70 #[.pointer (some ⟨g, 0, none⟩), .int .i64 st'] w fun e w' =>
      e = .returned (.tuple #[.int .i64 st', .int .u32 (if st' = 1 then i else 0)]) ∧ Blk w' g (rcells n s h t place give i pc wv nx st') 119 ∧ Fr (fun j => j = g) w w' := by
  have hB' : Blk w g #[.int .i64 n, .int .i64 s, .int .i64 h, .int .u32 t, .int .i64 place, .bool give, .int .u32 i, .int .i64 pc, .int .u64 wv, .int .u32 nx, .int .i64 st] 119 := hB
  have C := hB'.cells
  have F := hB'.free
  have hB2 := hB'.set 10 (.int .i64 st')
  have C2 := hB2.cells
  have q6 := C2 6
  simp at q6
  clear C2
  have hf2 : Fr (fun j => j = g) w (w.setCell ⟨g, 10, none⟩ (.int .i64 st')) := Fr.setCell (Fr.refl (fun j => j = g) w) (.inr (by rfl)) _
  go_enter Try.func70, Try.ntmps70
  by_cases hd : st' = 1
  · subst hd
    go_wp2_with fail
    go_quiet (fail)
    go_wp2_with fail
    go_ret2
    exact ⟨rfl, hB2, hf2.drewN _⟩
  · have hd' : (st' == 1) = false := by simpa using hd
    go_wp2_with fail
    go_ret2
    exact ⟨by first | rfl | (rw [if_neg hd]; rfl), hB2, hf2⟩
end Go.Proofs.Ytfglpigoljclbaa.H
