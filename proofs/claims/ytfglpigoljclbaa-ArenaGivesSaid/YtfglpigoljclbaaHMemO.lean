/- wmem: Load, Store, Swap. -/
import Derived.Test.YtfglpigoljclbaaHMemS
import Derived.Test.YtfglpigoljclbaaHMemC
set_option linter.unusedVariables false
set_option linter.unusedSimpArgs false
namespace Go.Proofs.Ytfglpigoljclbaa.H
open Go.RowKit
attribute [local go_sem ↓] Go.wp_at_zero Go.wp_at_succ
variable {w a b : World} {S T : Nat → Prop} {g n : Nat} {ws : List Int}

/-- Is there such a place? -/
def inR (ws : List Int) (i : Int) : Prop := 0 ≤ i ∧ i < (ws.length : Int)
instance (ws : List Int) (i : Int) : Decidable (inR ws i) := by unfold inR; infer_instance

/-- What is loaded; the error; how many accesses there are behind it; the words behind a store, and behind a swap. -/
def ldV (ws : List Int) (i : Int) : Int := if inR ws i then ws.getD i.toNat 0 else 0
def ldE (ws : List Int) (i : Int) : Int := if inR ws i then 0 else 2
def ldN (n : Nat) (ws : List Int) (i : Int) : Nat := if inR ws i then n + 1 else n
def stW (ws : List Int) (i x : Int) : List Int := if inR ws i then ws.set i.toNat x else ws
def swB (ws : List Int) (i o : Int) : Bool := decide (inR ws i) && (ws.getD i.toNat 0 == o)
def swW (ws : List Int) (i o x : Int) : List Int := if swB ws i o then ws.set i.toNat x else ws

theorem set_self (ws : List Int) (j : Nat) : ws.set j (ws.getD j 0) = ws := by
  apply List.ext_getElem?
  intro k
  rw [List.getElem?_set]
  by_cases h : j = k
  · subst h
    by_cases hl : j < ws.length
    · rw [if_pos rfl, if_pos hl, List.getD_eq_getElem?_getD, List.getElem?_eq_getElem hl]; rfl
    · rw [if_pos rfl, if_neg hl, List.getElem?_eq_none (by omega)]
  · rw [if_neg h]

theorem stW_len (ws : List Int) (i x : Int) : (stW ws i x).length = ws.length := by unfold stW; split <;> simp
theorem swW_len (ws : List Int) (i o x : Int) : (swW ws i o x).length = ws.length := by unfold swW; split <;> simp

theorem Load_ (w : World) (h : MemAt w S g ws n) (i : Int) (hn : n ≤ 1000000) :
    Calls Try.prog 95 #[.pointer (some ⟨g, 0, none⟩), .int .i64 i] w fun e w' => e = .returned (.tuple #[.int .u64 (ldV ws i), .int .i64 (ldE ws i)]) ∧ MemAt w' (Gr S w) g ws (ldN n ws i) ∧ Fr S w w' := by
  have H := Lib.hid h
  clear h
  by_cases hi : inR ws i
  · rw [ldV, ldE, ldN, if_pos hi, if_pos hi, if_pos hi]
    go_enter Try.func95, Try.ntmps95
    go_wp2_with fail
    refine (access_load _ H.out i hi.1 hi.2 hn).mono ?_
    rintro e w1 ⟨rfl, hM, hf⟩
    rw [set_self] at hM
    go_wp2_with fail
    go_ret2
    exact ⟨rfl, hM.move ((Fr.refl No _).alloc _) (fun _ _ h => h), hf.alloc _⟩
  · rw [ldV, ldE, ldN, if_neg hi, if_neg hi, if_neg hi]
    go_enter Try.func95, Try.ntmps95
    go_wp2_with fail
    refine (access_no _ H.out i _ (by unfold inR at hi; omega)).mono ?_
    rintro e w1 ⟨rfl, hf⟩
    go_wp2_with fail
    go_ret2
    exact ⟨rfl, (H.out.move (hf.alloc _) (fun _ _ h => h)).wide (fun i hi _ => .inl hi), (hf.alloc _).ofNo⟩

theorem Store_ (w : World) (h : MemAt w S g ws n) (i x : Int) (hn : n ≤ 1000000) :
    Calls Try.prog 57 #[.pointer (some ⟨g, 0, none⟩), .int .i64 i, .int .u64 x] w fun e w' => e = .returned (.int .i64 (ldE ws i)) ∧ MemAt w' (Gr S w) g (stW ws i x) (ldN n ws i) ∧ Fr S w w' := by
  have H := Lib.hid h
  clear h
  by_cases hi : inR ws i
  · rw [stW, ldE, ldN, if_pos hi, if_pos hi, if_pos hi]
    go_enter Try.func57, Try.ntmps57
    go_wp2_with fail
    refine (access_store _ H.out i hi.1 hi.2 hn x).mono ?_
    rintro e w1 ⟨rfl, hM, hf⟩
    go_wp2_with fail
    go_ret
    exact ⟨rfl, hM.move ((Fr.refl No _).alloc _) (fun _ _ h => h), hf.alloc _⟩
  · rw [stW, ldE, ldN, if_neg hi, if_neg hi, if_neg hi]
    go_enter Try.func57, Try.ntmps57
    go_wp2_with fail
    refine (access_no _ H.out i _ (by unfold inR at hi; omega)).mono ?_
    rintro e w1 ⟨rfl, hf⟩
    go_wp2_with fail
    go_ret
    exact ⟨rfl, (H.out.move (hf.alloc _) (fun _ _ h => h)).wide (fun i hi _ => .inl hi), (hf.alloc _).ofNo⟩

theorem Swap_ (w : World) (h : MemAt w S g ws n) (i o x : Int) (hn : n ≤ 1000000) :
    Calls Try.prog 108 #[.pointer (some ⟨g, 0, none⟩), .int .i64 i, .int .u64 o, .int .u64 x] w fun e w' => e = .returned (.tuple #[.bool (swB ws i o), .int .i64 (ldE ws i)]) ∧ MemAt w' (Gr S w) g (swW ws i o x) (ldN n ws i) ∧ Fr S w w' := by
  have H := Lib.hid h
  clear h
  by_cases hi : inR ws i
  · by_cases ho : ws.getD i.toNat 0 = o
    · have e1 : swB ws i o = true := by simp [swB, hi, -List.getD_eq_getElem?_getD, ho]
      rw [swW, ldE, ldN, e1, if_pos rfl, if_pos hi, if_pos hi]
      go_enter Try.func108, Try.ntmps108
      go_wp2_with fail
      refine (access_swap_yes _ H.out i hi.1 hi.2 hn o x ho).mono ?_
      rintro e w1 ⟨rfl, hM, hf⟩
      go_wp2_with fail
      go_ret2
      exact ⟨rfl, hM.move ((Fr.refl No _).alloc _) (fun _ _ h => h), hf.alloc _⟩
    · have e1 : swB ws i o = false := by simp only [swB, hi, decide_true, Bool.true_and, beq_eq_false_iff_ne]; exact ho
      rw [swW, ldE, ldN, e1, if_pos hi, if_pos hi]
      go_enter Try.func108, Try.ntmps108
      go_wp2_with fail
      refine (access_swap_no _ H.out i hi.1 hi.2 hn o x ho).mono ?_
      rintro e w1 ⟨rfl, hM, hf⟩
      rw [set_self] at hM
      go_wp2_with fail
      go_ret2
      exact ⟨rfl, hM.move ((Fr.refl No _).alloc _) (fun _ _ h => h), hf.alloc _⟩
  · have e1 : swB ws i o = false := by simp [swB, hi]
    rw [swW, ldE, ldN, e1, if_neg hi, if_neg hi]
    go_enter Try.func108, Try.ntmps108
    go_wp2_with fail
    refine (access_no _ H.out i _ (by unfold inR at hi; omega)).mono ?_
    rintro e w1 ⟨rfl, hf⟩
    go_wp2_with fail
    go_ret2
    exact ⟨rfl, (H.out.move (hf.alloc _) (fun _ _ h => h)).wide (fun i hi _ => .inl hi), (hf.alloc _).ofNo⟩
end Go.Proofs.Ytfglpigoljclbaa.H
