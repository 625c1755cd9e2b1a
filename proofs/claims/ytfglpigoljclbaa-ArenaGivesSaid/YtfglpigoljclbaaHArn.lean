/- arena: what a step does, in plain terms, and a machine in memory. -/
import Derived.Test.YtfglpigoljclbaaHBs7
set_option linter.unusedVariables false
set_option linter.unusedSimpArgs false
namespace Go.Proofs.Ytfglpigoljclbaa.H
open Go.RowKit
attribute [local go_sem ↓] Go.wp_at_zero Go.wp_at_succ
variable {w w' a b wr : World} {S T : Nat → Prop} {g gm gB gr k c c' kM kX kI j D : Nat} {ws ws' : List Int} {m m' : Mch} {n s h t : Int} {L L' : Nat → Nat}

/-- A machine of tries: a Give, or a Take; how many tries may be Contended yet; its shelf; its try, if there is one; its status and what it tells; a Give's node. -/
structure Arn where
  give : Bool
  left : Int
  shelf : List Int
  now : Option Mch
  st : Int
  i : Int
  node : Int

/-- A new try. -/
def Arn.fresh (a : Arn) : Mch := if a.give then ⟨true, 1, a.node, 0, 0, 0, 0⟩ else ⟨false, 1, 0, 0, 0, 0, 0⟩

/-- A step of a try. -/
def ago (n s h : Int) (a : Arn) (ws : List Int) (k : Nat) : Arn × List Int × Nat :=
  if a.st = 0 then
    let r := mgo n s h (a.now.getD a.fresh) ws k
    if r.1.st = 3 then ({ a with now := none, st := if a.left = 0 then 6 else 0, left := a.left - 1, i := r.1.told }, r.2.1, r.2.2)
    else ({ a with now := some r.1, st := r.1.st, i := r.1.told }, r.2.1, r.2.2)
  else (a, ws, k)

/-- A step of a machine. -/
def astep (n s h : Int) (a : Arn) (ws : List Int) (k : Nat) : Arn × List Int × Nat :=
  if a.give then
    let r := ago n s h a ws k
    if r.1.st = 6 then ({ r.1 with shelf := r.1.shelf ++ [a.node], st := 1, i := a.node }, r.2.1, r.2.2) else r
  else if 0 < a.shelf.length ∧ a.st = 0 then ({ a with shelf := a.shelf.take (a.shelf.length - 1), st := 1, i := a.shelf.getD (a.shelf.length - 1) 0 }, ws, k)
  else ago n s h a ws k

/-- The cells of tries, in a Take or in a Give. -/
def trc (l vs vf vn st i : Value) : Option Value → Array Value
  | none => #[l, vs, vf, vn, st, i]
  | some x => #[l, vs, vf, vn, st, i, x]
section
variable (l vs vf vn st i u : Value) (ex : Option Value)
theorem trc_0 : (trc l vs vf vn st i ex)[0]? = some l := by cases ex <;> rfl
theorem trc_1 : (trc l vs vf vn st i ex)[1]? = some vs := by cases ex <;> rfl
theorem trc_2 : (trc l vs vf vn st i ex)[2]? = some vf := by cases ex <;> rfl
theorem trc_3 : (trc l vs vf vn st i ex)[3]? = some vn := by cases ex <;> rfl
theorem trc_4 : (trc l vs vf vn st i ex)[4]? = some st := by cases ex <;> rfl
theorem trc_5 : (trc l vs vf vn st i ex)[5]? = some i := by cases ex <;> rfl
theorem trc_s0 : (trc l vs vf vn st i ex).setIfInBounds 0 u = trc u vs vf vn st i ex := by cases ex <;> rfl
theorem trc_s1 : (trc l vs vf vn st i ex).setIfInBounds 1 u = trc l u vf vn st i ex := by cases ex <;> rfl
theorem trc_s3 : (trc l vs vf vn st i ex).setIfInBounds 3 u = trc l vs vf u st i ex := by cases ex <;> rfl
theorem trc_s4 : (trc l vs vf vn st i ex).setIfInBounds 4 u = trc l vs vf vn u i ex := by cases ex <;> rfl
theorem trc_s5 : (trc l vs vf vn st i ex).setIfInBounds 5 u = trc l vs vf vn st u ex := by cases ex <;> rfl
end

/-- What makes a new try. -/
def FreshFn (w : World) (S : Nat → Prop) (n s h t : Int) (a : Arn) (vf : Value) : Prop :=
  (a.give = false ∧ ∃ bc, vf = .func (.func 99) #[] #[.pointer (some ⟨bc, 0, none⟩)] ∧ Blk w bc #[.int .i64 n, .int .i64 s, .int .i64 h, .int .u32 t] 25 ∧ S bc) ∨
  (a.give = true ∧ ∃ bc bi, vf = .func (.func 103) #[] #[.pointer (some ⟨bc, 0, none⟩), .pointer (some ⟨bi, 0, none⟩)] ∧ Blk w bc #[.int .i64 n, .int .i64 s, .int .i64 h, .int .u32 t] 25 ∧ S bc ∧ Blk w bi #[.int .u32 a.node] 23 ∧ S bi)

/-- The try in memory. -/
def NowAt (w : World) (S : Nat → Prop) (n s h t : Int) (gv : Bool) (vn : Value) : Option Mch → Prop
  | none => vn = Value.nilIface
  | some m => m.give = gv ∧ ∃ gi, vn = .iface (if gv then 59 else 58) (.pointer (some ⟨gi, 0, none⟩)) ∧ MchAt w S gi n s h t m

def arnTy (gv : Bool) : TypeId := if gv then 164 else 162
def arnEx (a : Arn) : Option Value := if a.give then some (.int .u32 a.node) else none

def Arn.ok (a : Arn) : Prop := -1 ≤ a.left ∧ a.left ≤ 9223372036854775807 ∧ (a.st = 0 → 0 ≤ a.left) ∧ 0 ≤ a.node ∧ a.node < 4294967296 ∧ 0 ≤ a.i ∧ a.i < 4294967296 ∧ (∀ j, 0 ≤ a.shelf.getD j 0 ∧ a.shelf.getD j 0 < 4294967296)

/-- The shelf is no box of what makes a new try. -/
def Apart (vs vf : Value) : Prop := ∀ f bc bi, vf = .func f #[] #[.pointer (some ⟨bc, 0, none⟩), .pointer (some ⟨bi, 0, none⟩)] → vs.ownBlock ≠ some bi

/-- The machine at block g: its blocks bear label kX, its try's label kI. -/
def ArnAt (w : World) (L : Nat → Nat) (kX kI g : Nat) (n s h t : Int) (a : Arn) : Prop :=
  L g = kX ∧ a.ok ∧ ∃ vs vf vn, Blk w g (trc (.int .i64 a.left) vs vf vn (.int .i64 a.st) (.int .u32 a.i) (arnEx a)) (arnTy a.give) ∧ Own w (Lab L w kX) 23 1 vs a.shelf.length (us .u32 a.shelf) ∧ FreshFn w (Lab L w kX) n s h t a vf ∧ NowAt w (Lab L w kI) n s h t a.give vn a.now ∧ Apart vs vf

theorem FreshFn.move {A : Arn} {vf : Value} (H : FreshFn a S n s h t A vf) (hf : Fr T a b) (hd : ∀ i, S i → ¬ T i) : FreshFn b S n s h t A vf := by
  rcases H with ⟨h0, bc, h1, h2, h3⟩ | ⟨h0, bc, bi, h1, h2, h3, h4, h5⟩
  · exact .inl ⟨h0, bc, h1, hf.keep h2 (hd _ h3), h3⟩
  · exact .inr ⟨h0, bc, bi, h1, hf.keep h2 (hd _ h3), h3, hf.keep h4 (hd _ h5), h5⟩
theorem FreshFn.wide {A : Arn} {vf : Value} (H : FreshFn a S n s h t A vf) (hs : ∀ i, S i → i < a.heap.size → T i) : FreshFn a T n s h t A vf := by
  rcases H with ⟨h0, bc, h1, h2, h3⟩ | ⟨h0, bc, bi, h1, h2, h3, h4, h5⟩
  · exact .inl ⟨h0, bc, h1, h2, hs _ h3 h2.lt⟩
  · exact .inr ⟨h0, bc, bi, h1, h2, hs _ h3 h2.lt, h4, hs _ h5 h4.lt⟩
theorem FreshFn.lab {A : Arn} {vf : Value} {q : Nat → Prop} (H : FreshFn w (Lab L w k) n s h t A vf) (hf : FrL L q w w') (he : Ext L L' w) (hk : ¬ q k) : FreshFn w' (Lab L' w' k) n s h t A vf :=
  (H.move hf (fun i hi h => hk (by rw [← hi.1]; exact h))).wide fun i hi _ => lab_ext he hf.size hi
theorem NowAt.lab {gv : Bool} {vn : Value} {o : Option Mch} {q : Nat → Prop} (H : NowAt w (Lab L w k) n s h t gv vn o) (hf : FrL L q w w') (he : Ext L L' w) (hk : ¬ q k) : NowAt w' (Lab L' w' k) n s h t gv vn o := by
  cases o with
  | none => exact H
  | some m =>
    obtain ⟨h1, gi, h2, h3⟩ := H
    exact ⟨h1, gi, h2, h3.lab hf he hk⟩
theorem Own.labk {e size n : Nat} {v : Value} {xs : List Value} {q : Nat → Prop} (H : Own w (Lab L w k) e size v n xs) (hf : FrL L q w w') (he : Ext L L' w) (hk : ¬ q k) : Own w' (Lab L' w' k) e size v n xs :=
  H.move fun i hi hl => ⟨Fr.block hf i hl (fun h => hk (by rw [← hi.1]; exact h)), lab_ext he hf.size hi⟩

theorem ArnAt.lab {A : Arn} {q : Nat → Prop} (H : ArnAt w L kX kI g n s h t A) (hf : FrL L q w w') (he : Ext L L' w) (hX : ¬ q kX) (hI : ¬ q kI) : ArnAt w' L' kX kI g n s h t A := by
  obtain ⟨h1, h2, vs, vf, vn, h3, h4, h5, h6, h7⟩ := H
  exact ⟨(he g h3.lt).trans h1, h2, vs, vf, vn, Fr.keep hf h3 (by rw [h1]; exact hX), h4.labk hf he hX, h5.lab hf he hX, h6.lab hf he hI, h7⟩
theorem ArnAt.no {A : Arn} (H : ArnAt w L kX kI g n s h t A) (hf : Fr No w w') : ArnAt w' L kX kI g n s h t A := H.lab (q := fun _ => False) (FrL.ofNo hf) (Ext.refl _ _) id id

theorem NewTakeF (w : World) {bc : Nat} (hB : Blk w bc #[.int .i64 n, .int .i64 s, .int .i64 h, .int .u32 t] 25) :
    Calls Try.prog 99 #[.pointer (some ⟨bc, 0, none⟩)] w fun e w' => ∃ gi, e = .returned (.iface 58 (.pointer (some ⟨gi, 0, none⟩))) ∧ MchAt w' (New w.heap.size) gi n s h t ⟨false, 1, 0, 0, 0, 0, 0⟩ ∧ Fr No w w' := by
  have C := hB.cells
  go_enter Try.func99, Try.ntmps99
  go_wp2_with fail
  refine (NewTake_ _ n s h t 1).mono ?_
  rintro e w1 ⟨gi, rfl, hX, hf⟩
  go_wp2_with fail
  go_ret
  exact ⟨gi, rfl, hX, hf⟩

theorem NewGiveF (w : World) {bc bi : Nat} {x : Int} (hB : Blk w bc #[.int .i64 n, .int .i64 s, .int .i64 h, .int .u32 t] 25) (hI : Blk w bi #[.int .u32 x] 23) (x0 : 0 ≤ x) (x1 : x < 4294967296) :
    Calls Try.prog 103 #[.pointer (some ⟨bc, 0, none⟩), .pointer (some ⟨bi, 0, none⟩)] w fun e w' => ∃ gi, e = .returned (.iface 59 (.pointer (some ⟨gi, 0, none⟩))) ∧ MchAt w' (New w.heap.size) gi n s h t ⟨true, 1, x, 0, 0, 0, 0⟩ ∧ Fr No w w' := by
  have C := hB.cells
  have C2 := hI.cells
  go_enter Try.func103, Try.ntmps103
  go_wp2_with fail
  refine (NewGive_ _ n s h t 1 x x0 x1).mono ?_
  rintro e w1 ⟨gi, rfl, hX, hf⟩
  go_wp2_with fail
  go_ret
  exact ⟨gi, rfl, hX, hf⟩

theorem m_take (g : Nat) (w : World) : (method 286 58 (.pointer (some ⟨g, 0, none⟩)) "Step").run Try.prog w = .ok (48, .pointer (some ⟨g, 0, none⟩)) w := by kernel_rfl
theorem m_give (g : Nat) (w : World) : (method 286 59 (.pointer (some ⟨g, 0, none⟩)) "Step").run Try.prog w = .ok (69, .pointer (some ⟨g, 0, none⟩)) w := by kernel_rfl
end Go.Proofs.Ytfglpigoljclbaa.H
