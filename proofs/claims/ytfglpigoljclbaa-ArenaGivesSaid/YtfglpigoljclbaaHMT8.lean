/- Law 8's made, in the state of a law: a Take, a Give. -/
import Derived.Test.YtfglpigoljclbaaHRuns8
import Derived.Test.YtfglpigoljclbaaHBs7
set_option linter.unusedVariables false
set_option linter.unusedSimpArgs false
namespace Go.Proofs.Ytfglpigoljclbaa.H
open Go.RowKit
attribute [local go_sem ↓] Go.wp_at_zero Go.wp_at_succ
variable {w w' a b wr : World} {S T : Nat → Prop} {g gm gB gr k c c' kM kX kI kR kS j D : Nat} {ws ws' : List Int} {m m' : Mch} {n s h t : Int} {L L' : Nat → Nat} {vt vg : Value}

theorem Bs.ext (H : Bs w wr L gB gm n t ws c) (hf : Fr No wr w') (he : Ext L L' wr) : Bs w w' L' gB gm n t ws c :=
  ⟨H.fr.then hf, H.old.ext he H.fr.size, hf.keepNo H.cfg, (he gB H.cfg.lt).trans H.lab, H.mem.lab (S := fun _ => False) (FrL.ofNo hf) he id⟩

theorem Bs.alft {A : Arn} (H : Bs w wr L gB gm n t ws c) (h : ALft L wr 1 2 3 g gm n 0 0 t A ws' c' w') : ∃ L', Bs w w' L' gB gm n t ws' c' := by
  obtain ⟨L', hE, hX, hM, hf⟩ := h
  exact ⟨L', ⟨H.old.fr H.fr hf (by omega), H.old.ext hE H.fr.size, Fr.keep hf H.cfg (by rw [H.lab]; omega), (hE gB H.cfg.lt).trans H.lab, hM⟩⟩


theorem madeTake {w0 : World} (w : World) (b i : Int) (v : Value) (xs : List Int) (H : Bs w0 w L gB gm n t ws c) (hv : Rd w S v (us .u32 xs)) (hl : xs.length ≤ 1000000) (b1 : b ≤ 9223372036854775807) (b0 : -9223372036854775808 ≤ b) (hx : ∀ j, 0 ≤ xs.getD j 0 ∧ xs.getD j 0 < 4294967296) :
    Calls Try.prog 52 #[cfg n 0 0 t, .agg #[.bool false, .int .i64 b, .int .i64 i, v]] w fun e w' => ∃ g r, e = .returned (.agg #[.pointer (some ⟨g, 0, none⟩), .pointer none, .pointer (some ⟨r, 0, none⟩)]) ∧
      ∃ L', Bs w0 w' L' gB gm n t ws c ∧ ArnAt w' L' 2 3 g n 0 0 t (jobA false b i xs) ∧ Ext L L' w ∧ Fr No w w' := by
  refine (made8_ w L 2 3 4 n 0 0 t b i _ v xs (by decide) (by decide) hv hl b1 b0 hx).mono ?_
  rintro e w' ⟨g, r, vt, vg, rfl, hp, Lz, hE, hA, _, _, hf⟩
  rcases hp with ⟨h, rfl, rfl⟩ | ⟨h, rfl, rfl⟩
  · cases h
  · exact ⟨g, r, rfl, Lz, H.ext hf hE, hA, hE, hf⟩

theorem madeGive {w0 : World} (w : World) (b i : Int) (v : Value) (xs : List Int) (H : Bs w0 w L gB gm n t ws c) (hv : Rd w S v (us .u32 xs)) (hl : xs.length ≤ 1000000) (b1 : b ≤ 9223372036854775807) (b0 : -9223372036854775808 ≤ b) (hx : ∀ j, 0 ≤ xs.getD j 0 ∧ xs.getD j 0 < 4294967296) :
    Calls Try.prog 52 #[cfg n 0 0 t, .agg #[.bool true, .int .i64 b, .int .i64 i, v]] w fun e w' => ∃ g r, e = .returned (.agg #[.pointer none, .pointer (some ⟨g, 0, none⟩), .pointer (some ⟨r, 0, none⟩)]) ∧
      ∃ L', Bs w0 w' L' gB gm n t ws c ∧ ArnAt w' L' 2 3 g n 0 0 t (jobA true b i xs) ∧ Ext L L' w ∧ Fr No w w' := by
  refine (made8_ w L 2 3 4 n 0 0 t b i _ v xs (by decide) (by decide) hv hl b1 b0 hx).mono ?_
  rintro e w' ⟨g, r, vt, vg, rfl, hp, Lz, hE, hA, _, _, hf⟩
  rcases hp with ⟨h, rfl, rfl⟩ | ⟨h, rfl, rfl⟩
  · exact ⟨g, r, rfl, Lz, H.ext hf hE, hA, hE, hf⟩
  · cases h

end Go.Proofs.Ytfglpigoljclbaa.H
