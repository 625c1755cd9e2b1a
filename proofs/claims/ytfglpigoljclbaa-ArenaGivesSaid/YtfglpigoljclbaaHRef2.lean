/- hatstandref2: the document's memory of words. -/
import Derived.Test.YtfglpigoljclbaaHMemO
import Derived.Deep.RegionLaw
set_option linter.unusedVariables false
set_option linter.unusedSimpArgs false
namespace Go.Proofs.Ytfglpigoljclbaa.H
open Go.RowKit
attribute [local go_sem ↓] Go.wp_at_zero Go.wp_at_succ

/-- The document's memory at block g: its words, and how many accesses it has noted; all its blocks lie in S. -/
def RefAt (w : World) (S : Nat → Prop) (g : Nat) (ws : List Int) (n : Nat) : Prop :=
  S g ∧ ∃ vw vn ns, Blk w g #[vw, vn] 72 ∧ Own w S 26 1 vw ws.length (us .u64 ws) ∧ Own w S 149 5 vn n ns

variable {w a b : World} {S T : Nat → Prop} {g n : Nat} {ws : List Int}

theorem RefAt.move (h : RefAt a S g ws n) (hf : Fr T a b) (hd : ∀ i, S i → ¬ T i) : RefAt b S g ws n := by
  obtain ⟨hS, vw, vn, ns, hB, hW, hN⟩ := h
  exact ⟨hS, vw, vn, ns, hf.keep hB (hd g hS), hW.keep hf hd, hN.keep hf hd⟩

theorem RefAt.wide (h : RefAt a S g ws n) (hs : ∀ i, S i → i < a.heap.size → T i) : RefAt a T g ws n := by
  obtain ⟨hS, vw, vn, ns, hB, hW, hN⟩ := h
  exact ⟨hs g hS hB.lt, vw, vn, ns, hB, hW.wide hs, hN.wide hs⟩

theorem RNew_yes (w : World) (v : Value) (ws : List Int) (hv : Rd w S v (us .u64 ws)) (hl : ws.length ≤ 1024) :
    Calls Try.prog 36 #[v] w fun e w' => ∃ g, e = .returned (.tuple #[.pointer (some ⟨g, 0, none⟩), .int .i64 0]) ∧ RefAt w' (New w.heap.size) g ws 0 ∧ Fr No w w' := by
  obtain ⟨A, c, rfl, hlc, hcm, hc⟩ := hv
  have hli : ¬ (1024 : Int) < (us IntKind.u64 ws).length := by rw [us_len]; omega
  have hst : ∀ (vv : Value) (w1 : World), Own w1 (New w.heap.size) 26 1 vv ws.length (us .u64 ws) → w.heap.size ≤ w1.heap.size → Fr No w w1 → RefAt (w1.alloc (.cells #[vv, .slice none 0 0] 72)) (New w.heap.size) w1.heap.size ws 0 ∧ Fr No w (w1.alloc (.cells #[vv, .slice none 0 0] 72)) := fun vv w1 h hs hf =>
    ⟨⟨hs, _, _, [], blk_new _ _ _, h.alloc _, Own.nil _ _ _ _⟩, hf.alloc _⟩
  cases A with
  | none =>
    have hx : ws = [] := by
      cases ws with
      | nil => rfl
      | cons x l => obtain ⟨g, o, hA, _⟩ := hc (by simp [us]); cases hA
    subst hx
    go_enter Try.func36, Try.ntmps36
    go_wp2_with fail
    go_ret2
    obtain ⟨h1, h2⟩ := hst _ _ (Own.lit (w.alloc (.cells #[] 26)) (S := New w.heap.size) (n := 0) (Nat.le_refl _) (blk_new w #[] _) rfl (by decide)) (by simp) ((Fr.refl No w).alloc _)
    exact ⟨_, by rw [World.size_alloc]; rfl, h1, h2⟩
  | some ad =>
    have hnews : ∀ j u, (us .u64 ws)[j]? = some u → (w.alloc (.cells #[] 26)).cell? (ad.add j) = some u := by
      intro j u hj
      have hlt := (List.getElem?_eq_some_iff.1 hj).1
      obtain ⟨g, o, hA, hS, hcc⟩ := hc (by omega)
      cases hA
      have e : ((⟨g, o, none⟩ : Addr).add j) = ⟨g, o + j, none⟩ := by unfold Addr.add; split <;> simp_all
      have hlt2 := hcc j hlt
      rw [hj] at hlt2
      rw [e, World.cell?_alloc_lt _ _ _ (World.block_lt_of_cell? w _ hlt2)]
      exact hlt2
    go_enter Try.func36, Try.ntmps36
    go_wp2_with (at_builtin; go_loud (refine wp_append_x rfl _ _ 36 26 (.int .u64 0) 8 rfl Try.underlying36 info26 rfl (by decide) (Own.lit _ (S := New w.heap.size) (n := 0) (Nat.le_refl _) (blk_new w #[] _) rfl (by decide)) rfl ad (us .u64 ws).length c (us .u64 ws) rfl (by simp) hnews (us_one _ _) (by rw [us_len]; simp only [maxLen]; omega) (by rw [us_len]; omega) ?_; intro v' w' hO hF hN; obtain ⟨A1, c1, rfl, _, _⟩ := hO.slice))
    go_ret2
    rw [Nat.zero_add, us_len, List.nil_append] at hO
    have hF' := ((Fr.refl No w).alloc (.cells #[] 26)).trans hF (fun i hi h => by simp [Row, Value.ownBlock] at h; omega)
    have hs := hF'.size
    obtain ⟨h1, h2⟩ := hst _ _ (hO.wide (fun i hi _ => by rcases hi with hi | hi; exact hi; simp only [New, World.size_alloc] at *; omega)) hs hF'
    rw [us_len]
    exact ⟨_, rfl, h1, h2⟩

theorem RNew_no (w : World) (A : Option Addr) (n c : Nat) (hl : 1024 < n) :
    Calls Try.prog 36 #[.slice A n c] w fun e w' => e = .returned (.tuple #[.pointer none, .int .i64 1]) ∧ Fr No w w' := by
  have hli : (1024 : Int) < n := by omega
  go_enter Try.func36, Try.ntmps36
  go_wp2_with fail
  go_ret2
  exact ⟨rfl, Fr.refl _ _⟩

theorem info_racc : (Try.prog.info? 149).map (fun i => (i.zero, i.size, i.bytes)) = some (some (.agg #[.int .u8 0, .int .i64 0, .int .u64 0, .int .u64 0, .bool false]), 5, 40) := by kernel_rfl

/-- An access is noted. -/
theorem rnote {w wc w6 : World} {gw cw c g' cap' : Nat} {A : Option Addr} {ns acc : List Value} (hSg : S g) (hf : Fr S w wc) (hN : Own wc S 149 5 (.slice A n c) n ns)
    (hW : Own wc S 26 1 (.slice (some ⟨gw, 0, none⟩) ws.length cw) ws.length (us .u64 ws)) (hf6 : Fr (Row (.slice A n c)) wc w6)
    (hO6 : Own w6 (Gr S wc) 149 5 (.slice (some ⟨g', 0, none⟩) (n + 1) cap') (n + 1) (ns ++ acc))
    (hB6 : Blk w6 g #[.slice (some ⟨gw, 0, none⟩) ws.length cw, .slice A n c] 72) :
    RefAt (w6.setCell ⟨g, 1, none⟩ (.slice (some ⟨g', 0, none⟩) (n + 1) cap')) (Gr S w) g ws (n + 1) ∧ Fr S w (w6.setCell ⟨g, 1, none⟩ (.slice (some ⟨g', 0, none⟩) (n + 1) cap')) ∧
    Blk (w6.setCell ⟨g, 1, none⟩ (.slice (some ⟨g', 0, none⟩) (n + 1) cap')) g #[.slice (some ⟨gw, 0, none⟩) ws.length cw, .slice (some ⟨g', 0, none⟩) (n + 1) cap'] 72 ∧
    Own (w6.setCell ⟨g, 1, none⟩ (.slice (some ⟨g', 0, none⟩) (n + 1) cap')) S 26 1 (.slice (some ⟨gw, 0, none⟩) ws.length cw) ws.length (us .u64 ws) := by
  have hW6 := hW.keepRow hN hf6 (by decide)
  have n1 : gw ≠ g := fun e => hW6.ne hB6 (by decide) (by rw [e]; rfl)
  have q1 : ¬ g' = g := fun e => hO6.ne hB6 (by decide) (by rw [e]; rfl)
  have hW7 := hW6.far' (p := ⟨g, 1, none⟩) (fun e => n1 (by simpa [Value.ownBlock] using e)) (.slice (some ⟨g', 0, none⟩) (n + 1) cap')
  have hN7 := hO6.far' (p := ⟨g, 1, none⟩) (fun e => q1 (by simpa [Value.ownBlock] using e)) (.slice (some ⟨g', 0, none⟩) (n + 1) cap')
  have hB7 := hB6.set 1 (.slice (some ⟨g', 0, none⟩) (n + 1) cap')
  refine ⟨⟨.inl hSg, _, _, ns ++ acc, hB7, hW7.wide (fun i hi _ => .inl hi), hN7.wide (fun i hi _ => ?_)⟩, (hf.trans hf6 (fun i _ h => hN.2 i h)).setCell (.inr hSg) _, hB7, hW7⟩
  rcases hi with hi | hi
  · exact .inl hi
  · have := hf.size; exact .inr (by omega)

/-- A store of a word, behind it. -/
theorem rstore {w7 : World} {j : Nat} {x : Int} {gw cw : Nat} {vn : Value} (h : RefAt w7 S g ws n) (hB : Blk w7 g #[.slice (some ⟨gw, 0, none⟩) ws.length cw, vn] 72) (hj : j < ws.length) :
    RefAt (w7.setCell ⟨gw, j, none⟩ (.int .u64 x)) S g (ws.set j x) n := by
  obtain ⟨hSg, vw, vn', ns, hB', hW, hN⟩ := h
  have e := Eq.trans (Eq.symm hB') hB
  simp at e
  obtain ⟨rfl, rfl⟩ := e
  have n1 : g ≠ gw := fun e => hW.ne hB (by decide) (by rw [e]; rfl)
  have W := hW.set j (.int .u64 x) (by rw [us_len]; exact hj)
  rw [us_set] at W
  refine ⟨hSg, _, _, ns, hB.far n1 _, ?_, hN.apart hW (by decide) _⟩
  rw [List.length_set]
  exact W

section
theorem RLoad_ (w : World) (h : RefAt w S g ws n) (i : Int) (hn : n ≤ 1000000) :
    Calls Try.prog 75 #[.pointer (some ⟨g, 0, none⟩), .int .i64 i] w fun e w' => e = .returned (.tuple #[.int .u64 (ldV ws i), .int .i64 (ldE ws i)]) ∧ RefAt w' (Gr S w) g ws (ldN n ws i) ∧ Fr S w w' := by
  have H := Lib.hid h
  obtain ⟨hSg, vw, vn, ns, hB, hW, hN⟩ := h
  obtain ⟨A, c, rfl, _, _⟩ := hN.slice
  have C := hB.cells
  by_cases hi : inR ws i
  · rw [ldV, ldE, ldN, if_pos hi, if_pos hi, if_pos hi]
    obtain ⟨h0, h1⟩ := hi
    have hl : i.toNat < ws.length := by omega
    obtain ⟨gw, cw, rfl, hSw, hgw, hcw, hcell, hfree⟩ := hW.form (by omega)
    have ck := hcell i.toNat (by rw [us_len]; exact hl)
    rw [us_get _ _ _ hl] at ck
    obtain ⟨x, hx⟩ : ∃ x, x = ws.getD i.toNat 0 := ⟨_, rfl⟩
    rw [← hx] at ck ⊢
    clear hx hcell hfree
    have hAc : ¬ Value.ownBlock (.slice A n c) = some g := hN.ne hB (by decide)
    go_enter Try.func75, Try.ntmps75
    go_wp2_with (at_builtin; go_loud (refine wp_append_1 rfl _ _ 70 149 (.agg #[.int .u8 0, .int .i64 0, .int .u64 0, .int .u64 0, .bool false]) 40 rfl Try.underlying70 info_racc rfl (by decide) (by decide) hN rfl #[.int .u8 108, .int .i64 i, .int .u64 x, .int .u64 x, .bool true] _ rfl rfl rfl (by simp [Value.oneCell']) (by omega) ?_; intro g' cap' w6 hO6 hf6 hr6; have hB6 := hf6.keep hB hAc; have C6 := hB6.cells; have F6 := hB6.free))
    go_ret2
    obtain ⟨h1, h2, _, _⟩ := rnote hSg (Fr.refl S w) hN hW hf6 hO6 hB6
    exact ⟨rfl, h1, h2⟩
  · rw [ldV, ldE, ldN, if_neg hi, if_neg hi, if_neg hi]
    obtain ⟨A2, c2, rfl, _, _⟩ := hW.slice
    go_enter Try.func75, Try.ntmps75
    by_cases h0 : i < 0
    · go_wp2_with fail
      go_ret2
      exact ⟨rfl, H.out.wide (fun i hi _ => .inl hi), Fr.refl _ _⟩
    · have h1 : (ws.length : Int) ≤ i := by unfold inR at hi; omega
      go_wp2_with fail
      go_ret2
      exact ⟨rfl, H.out.wide (fun i hi _ => .inl hi), Fr.refl _ _⟩

set_option maxHeartbeats 8000000 in
theorem RStore_ (w : World) (h : RefAt w S g ws n) (i y : Int) (hn : n ≤ 1000000) :
    Calls Try.prog 72 #[.pointer (some ⟨g, 0, none⟩), .int .i64 i, .int .u64 y] w fun e w' => e = .returned (.int .i64 (ldE ws i)) ∧ RefAt w' (Gr S w) g (stW ws i y) (ldN n ws i) ∧ Fr S w w' := by
  have H := Lib.hid h
  obtain ⟨hSg, vw, vn, ns, hB, hW, hN⟩ := h
  obtain ⟨A, c, rfl, _, _⟩ := hN.slice
  have C := hB.cells
  by_cases hi : inR ws i
  · rw [stW, ldE, ldN, if_pos hi, if_pos hi, if_pos hi]
    obtain ⟨h0, h1⟩ := hi
    have hl : i.toNat < ws.length := by omega
    obtain ⟨gw, cw, rfl, hSw, hgw, hcw, hcell, hfree⟩ := hW.form (by omega)
    have ck := hcell i.toNat (by rw [us_len]; exact hl)
    rw [us_get _ _ _ hl] at ck
    obtain ⟨x, hx⟩ : ∃ x, x = ws.getD i.toNat 0 := ⟨_, rfl⟩
    rw [← hx] at ck
    clear hx hcell hfree
    have hAc : ¬ Value.ownBlock (.slice A n c) = some g := hN.ne hB (by decide)
    have hBl := hB.lt
    have k0 := C 0
    have k1 := C 1
    simp at k0 k1
    go_enter Try.func72, Try.ntmps72
    go_wp2_with fail
    go_region_law ((refine step_append_1 (w := w.drew) rfl _ _ 70 149 (.agg #[.int .u8 0, .int .i64 0, .int .u64 0, .int .u64 0, .bool false]) 40 rfl Try.underlying70 info_racc rfl (by decide) (by decide) hN.drew rfl #[.int .u8 115, .int .i64 i, .int .u64 x, .int .u64 y, .bool true] _ rfl rfl rfl (by simp [Value.oneCell']) (by omega) ?_; intro g' cap' w6 hO6 hf6 hr6; have hB6 := hf6.keep hB.drew hAc; have C6 := hB6.cells; have F6 := hB6.free))
    all_goals
      obtain ⟨h1', h2', h3', h4'⟩ := rnote hSg ((Fr.refl S w).drew) hN.drew hW.drew hf6 hO6 hB6
      generalize w6.setCell ⟨g, 1, none⟩ (.slice (some ⟨g', 0, none⟩) (n + 1) cap') = w7 at *
      obtain ⟨gw', cw', hvw, _, _, _, hcell, hfree⟩ := h4'.form (by omega)
      cases hvw
      have ck7 := hcell i.toNat (by rw [us_len]; exact hl)
      rw [us_get _ _ _ hl] at ck7
      have F7 := hfree i.toNat
      have C7 := h3'.cells
      clear hcell hfree
      go_wp2_with fail
      go_ret
      exact ⟨rfl, rstore h1' h3' hl, h2'.setCell (.inr hSw) _⟩
  · rw [stW, ldE, ldN, if_neg hi, if_neg hi, if_neg hi]
    obtain ⟨A2, c2, rfl, _, _⟩ := hW.slice
    go_enter Try.func72, Try.ntmps72
    by_cases h0 : i < 0
    · go_wp2_with fail
      go_ret
      exact ⟨rfl, H.out.wide (fun i hi _ => .inl hi), Fr.refl _ _⟩
    · have h1 : (ws.length : Int) ≤ i := by unfold inR at hi; omega
      go_wp2_with fail
      go_ret
      exact ⟨rfl, H.out.wide (fun i hi _ => .inl hi), Fr.refl _ _⟩

theorem RSwap_ (w : World) (h : RefAt w S g ws n) (i o y : Int) (hn : n ≤ 1000000) :
    Calls Try.prog 76 #[.pointer (some ⟨g, 0, none⟩), .int .i64 i, .int .u64 o, .int .u64 y] w fun e w' => e = .returned (.tuple #[.bool (swB ws i o), .int .i64 (ldE ws i)]) ∧ RefAt w' (Gr S w) g (swW ws i o y) (ldN n ws i) ∧ Fr S w w' := by
  have H := Lib.hid h
  obtain ⟨hSg, vw, vn, ns, hB, hW, hN⟩ := h
  obtain ⟨A, c, rfl, _, _⟩ := hN.slice
  have C := hB.cells
  by_cases hi : inR ws i
  · have hi' := hi
    obtain ⟨h0, h1⟩ := hi'
    have hl : i.toNat < ws.length := by omega
    obtain ⟨gw, cw, rfl, hSw, hgw, hcw, hcell, hfree⟩ := hW.form (by omega)
    have ck := hcell i.toNat (by rw [us_len]; exact hl)
    rw [us_get _ _ _ hl] at ck
    have hAc : ¬ Value.ownBlock (.slice A n c) = some g := hN.ne hB (by decide)
    have hBl := hB.lt
    by_cases ho : ws.getD i.toNat 0 = o
    · have e1 : swB ws i o = true := by simp [swB, hi, -List.getD_eq_getElem?_getD, ho]
      rw [swW, ldE, ldN, e1, if_pos rfl, if_pos hi, if_pos hi]
      rw [ho] at ck
      clear ho e1 hcell hfree hi
      go_enter Try.func76, Try.ntmps76
      go_wp2_with (at_builtin; go_loud (refine wp_append_1 rfl _ _ 70 149 (.agg #[.int .u8 0, .int .i64 0, .int .u64 0, .int .u64 0, .bool false]) 40 rfl Try.underlying70 info_racc rfl (by decide) (by decide) hN rfl #[.int .u8 99, .int .i64 i, .int .u64 o, .int .u64 y, .bool true] _ rfl rfl rfl (by simp [Value.oneCell']) (by omega) ?_; intro g' cap' w6 hO6 hf6 hr6; have hB6 := hf6.keep hB hAc; have C6 := hB6.cells; have F6 := hB6.free; obtain ⟨h1', h2', h3', h4'⟩ := rnote hSg (Fr.refl S w) hN hW hf6 hO6 hB6; have H1 := Lib.hid h1'; obtain ⟨gw', cw', hvw, _, _, _, hcell, hfree⟩ := h4'.form (by omega); cases hvw; have ck7 := hcell i.toNat (by rw [us_len]; exact hl); rw [us_get _ _ _ hl] at ck7; have F7 := hfree i.toNat; have C7 := h3'.cells; clear hcell hfree))
      go_ret2
      exact ⟨rfl, rstore H1.out h3' hl, h2'.setCell (.inr hSw) _⟩
    · have e1 : swB ws i o = false := by simp only [swB, hi, decide_true, Bool.true_and, beq_eq_false_iff_ne]; exact ho
      rw [swW, ldE, ldN, e1, if_pos hi, if_pos hi]
      obtain ⟨x, hx⟩ : ∃ x, x = ws.getD i.toNat 0 := ⟨_, rfl⟩
      rw [← hx] at ck ho
      clear hx e1 hcell hfree hi
      go_enter Try.func76, Try.ntmps76
      have hxo : (x != o) = true := by simpa using ho
      go_wp2_with (at_builtin; go_loud (refine wp_append_1 rfl _ _ 70 149 (.agg #[.int .u8 0, .int .i64 0, .int .u64 0, .int .u64 0, .bool false]) 40 rfl Try.underlying70 info_racc rfl (by decide) (by decide) hN rfl #[.int .u8 99, .int .i64 i, .int .u64 x, .int .u64 x, .bool false] _ rfl rfl rfl (by simp [Value.oneCell']) (by omega) ?_; intro g' cap' w6 hO6 hf6 hr6; have hB6 := hf6.keep hB hAc; have C6 := hB6.cells; have F6 := hB6.free))
      go_ret2
      obtain ⟨h1', h2', _, _⟩ := rnote hSg (Fr.refl S w) hN hW hf6 hO6 hB6
      exact ⟨rfl, h1', h2'⟩
  · have e1 : swB ws i o = false := by simp [swB, hi]
    rw [swW, ldE, ldN, e1, if_neg hi, if_neg hi]
    obtain ⟨A2, c2, rfl, _, _⟩ := hW.slice
    go_enter Try.func76, Try.ntmps76
    by_cases h0 : i < 0
    · go_wp2_with fail
      go_ret2
      exact ⟨rfl, H.out.wide (fun i hi _ => .inl hi), Fr.refl _ _⟩
    · have h1 : (ws.length : Int) ≤ i := by unfold inR at hi; omega
      go_wp2_with fail
      go_ret2
      exact ⟨rfl, H.out.wide (fun i hi _ => .inl hi), Fr.refl _ _⟩
end
end Go.Proofs.Ytfglpigoljclbaa.H
