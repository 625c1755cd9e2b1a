/- wmem: access, when it is to swap. -/
import Derived.Test.YtfglpigoljclbaaHMem
set_option linter.unusedVariables false
set_option linter.unusedSimpArgs false
namespace Go.Proofs.Ytfglpigoljclbaa.H
open Go.RowKit
attribute [local go_sem ↓] Go.wp_at_zero Go.wp_at_succ
variable {w a b : World} {S T : Nat → Prop} {g n : Nat} {ws : List Int}

set_option maxHeartbeats 2000000 in
theorem access_swap_yes (w : World) (h : MemAt w S g ws n) (at' : Int) (h0 : 0 ≤ at') (h1 : at' < (ws.length : Int)) (hn : n ≤ 1000000) (o y : Int) (hxo : ws.getD at'.toNat 0 = o) :
    Calls Try.prog 89 #[.pointer (some ⟨g, 0, none⟩), .int .i64 at', .iface 167 (.agg #[.int .u64 o, .int .u64 y])] w fun e w' =>
      e = .returned (.tuple #[.agg #[.int .u8 99, .int .i64 at', .int .u64 (ws.getD at'.toNat 0), .int .u64 y, .bool true], .int .i64 0]) ∧ MemAt w' (Gr S w) g (ws.set at'.toNat y) (n + 1) ∧ Fr S w w' := by
  obtain ⟨hSg, vw, vn, ns, hB, hW, hN⟩ := h
  have hl : at'.toNat < ws.length := by omega
  obtain ⟨gw, cw, rfl, hSw, hgw, hcw, hcell, hfree⟩ := hW.form (by omega)
  obtain ⟨A, c, rfl, _, _⟩ := hN.slice
  have C := hB.cells
  have hlt := hB.lt
  have ck := hcell at'.toNat (by rw [us_len]; exact hl)
  rw [us_get _ _ _ hl] at ck
  obtain ⟨x, hx⟩ : ∃ x, x = ws.getD at'.toNat 0 := ⟨_, rfl⟩
  rw [← hx] at ck hxo ⊢
  subst hxo
  have HX := Lib.hid hx
  clear hx
  have k0 := C 0
  simp at k0
  have q0 : ∀ w, (Instr.typeAssert (.iface 167 (.agg #[.int .u64 x, .int .u64 y])) 20 165 true).run Try.prog w = .ok (.tuple #[.agg #[], .bool false]) w := fun w => by kernel_rfl
  have q1 : ∀ w, (Instr.typeAssert (.iface 167 (.agg #[.int .u64 x, .int .u64 y])) 20 145 true).run Try.prog w = .ok (.tuple #[.agg #[.int .u64 0], .bool false]) w := fun w => by kernel_rfl
  have q2 : ∀ w, (Instr.typeAssert (.iface 167 (.agg #[.int .u64 x, .int .u64 y])) 20 167 true).run Try.prog w = .ok (.tuple #[.agg #[.int .u64 x, .int .u64 y], .bool true]) w := fun w => by kernel_rfl
  clear hcell C
  go_enter Try.func89, Try.ntmps89
  go_wp2_with fail
  go_region_held3 (fun w' => w'.cell? ⟨g, 0, none⟩ = some (.slice (some ⟨gw, 0, none⟩) ws.length cw) ∧ w'.cell? ⟨gw, at'.toNat, none⟩ = some (.int .u64 x)) (first | (go_keep; done) | (go_split_ands; (repeat' apply And.intro) <;> first | assumption | (refine (Fr.cell (S := No) (by assumption) (by first | (simp; done) | (simp; omega) | omega) id).trans ?_; first | assumption | (simp; done) | (simp; assumption)) | (refine (Fr.frozen (S := No) (by assumption) (by first | (simp; done) | (simp; omega) | omega) id).trans ?_; first | assumption | (simp; done) | (simp; assumption)))) (fail)
  go_wp2_with fail
  go_region_held3 (fun w' => w'.cell? ⟨w.heap.size + 1 + 1, 0, none⟩ = some (.int .u64 x) ∧ w'.cell? ⟨w.heap.size + 1, 2, none⟩ = some (.int .u64 x)) (first | (simp [go_sem, World.cell?_alloc_past, World.cell?_alloc_at]; done) | (first | (go_keep; done) | (go_split_ands; (repeat' apply And.intro) <;> first | assumption | (refine (Fr.cell (S := No) (by assumption) (by first | (simp; done) | (simp; omega) | omega) id).trans ?_; first | assumption | (simp; done) | (simp; assumption)) | (refine (Fr.frozen (S := No) (by assumption) (by first | (simp; done) | (simp; omega) | omega) id).trans ?_; first | assumption | (simp; done) | (simp; assumption))))) (fail)
  go_wp2_with fail
  obtain ⟨w3, hw3⟩ : ∃ w3, w3 = (((w.alloc (.cells #[.int .u8 0, .int .i64 0, .int .u64 0, .int .u64 0, .bool false] 141)).alloc (.cells #[.int .u8 99, .int .i64 at', .int .u64 x, .int .u64 y, .bool true] 141)).alloc (.cells #[.int .u64 x, .int .u64 y] 167)).drew.drew := ⟨_, rfl⟩
  rw [← hw3]
  have H3 : AccMid w w3 S g gw cw A c n ns ws #[.int .u8 99, .int .i64 at', .int .u64 x, .int .u64 y, .bool true] := by
    subst hw3
    exact ⟨(((hB.alloc _).alloc _).alloc _).drew.drew, (((hW.alloc _).alloc _).alloc _).drew.drew, (((hN.alloc _).alloc _).alloc _).drew.drew, (((blk_new _ _ _).alloc _).alloc _).drew.drew, ((blk_at _ (by simp)).alloc _).drew.drew, by (repeat (first | exact Fr.refl _ _ | refine Fr.setCell ?_ (.inl (by first | (simp; done) | (simp; omega) | omega)) _ | refine Fr.alloc ?_ _ | refine Fr.drew ?_ | refine Fr.drewN ?_ _ | refine Fr.thenNo ?_ (by assumption)))⟩
  have hNlt := hN.lt
  clear hw3 hB hW hN ck k0 hfree
  obtain ⟨z1, hz1⟩ : ∃ z1, z1 = w.heap.size + 1 := ⟨_, rfl⟩
  obtain ⟨z0, hz0⟩ : ∃ z0, z0 = w.heap.size := ⟨_, rfl⟩
  have H3' := H3
  unfold AccMid at H3'
  rw [← hz1, ← hz0] at H3'
  rw [← hz1, ← hz0]
  obtain ⟨hB, hW, hN, hR, hA, hf⟩ := H3'
  have n1 : gw ≠ g := fun e => hW.ne hB (by decide) (by rw [e]; rfl)
  have n2 : gw ≠ z0 := by omega
  have n3 : gw ≠ z1 := by omega
  have HZ1 := Lib.hid hz1
  have HZ0 := Lib.hid hz0
  clear hz1 hz0
  have CB := hB.cells
  have CA := hA.cells
  have k0 := CB 0
  have k1 := CA 3
  simp at k0 k1
  obtain ⟨gw', cw', hvw, _, _, _, hcell, hfree⟩ := hW.form (by omega)
  cases hvw
  have ck := hcell at'.toNat (by rw [us_len]; exact hl)
  rw [us_get _ _ _ hl, ← HX.out] at ck
  have F0 := hfree at'.toNat
  clear CB CA hcell hfree
  go_cut [] (fun wx => AccMid w wx S g gw cw A c n ns (ws.set at'.toNat y) #[.int .u8 99, .int .i64 at', .int .u64 x, .int .u64 y, .bool true])
  case first =>
    go_region_held3 (fun w' => w'.cell? ⟨g, 0, none⟩ = some (.slice (some ⟨gw, 0, none⟩) ws.length cw) ∧ w'.cell? ⟨z1, 3, none⟩ = some (.int .u64 y)) (first | (go_keep; done) | (go_split_ands; (repeat' apply And.intro) <;> first | assumption | (refine (Fr.cell (S := No) (by assumption) (by first | (simp; done) | (simp; omega) | omega) id).trans ?_; first | assumption | (simp; done) | (simp; assumption)) | (refine (Fr.frozen (S := No) (by assumption) (by first | (simp; done) | (simp; omega) | omega) id).trans ?_; first | assumption | (simp; done) | (simp; assumption)))) (fail)
    go_wp2_with fail
    go_meet
    have W := hW.set at'.toNat (.int .u64 y) (by rw [us_len]; exact hl)
    rw [us_set] at W
    refine ⟨?_, ?_, (hN.apart hW (by decide) _).drew, ?_, ?_, (hf.setCell (.inr hSw) _).drew⟩
    · rw [List.length_set]; exact (hB.far (Ne.symm n1) _).drew
    · rw [List.length_set]; exact W.drew
    · rw [← HZ0.out]; exact (hR.far (Ne.symm n2) _).drew
    · rw [← HZ1.out]; exact (hA.far (Ne.symm n3) _).drew
  case rest =>
    clear hB hW hN hR hA hf H3 k0 k1 ck F0
    unfold AccMid at hcut
    rw [← HZ1.out, ← HZ0.out, List.length_set] at hcut
    obtain ⟨hB, hW, hN, hR, hA, hf⟩ := hcut
    have CB := hB.cells
    have CA := hA.cells
    have FB := hB.free
    have hAc : ¬ Value.ownBlock (.slice A n c) = some g := hN.ne hB (by decide)
    have hBl := hB.lt
    have hAc0 : ¬ Value.ownBlock (.slice A n c) = some z0 := fun e => by have := hNlt _ e; have := HZ0.out; omega
    have hAc1 : ¬ Value.ownBlock (.slice A n c) = some z1 := fun e => by have := hNlt _ e; have := HZ1.out; omega
    have hS0 : w.heap.size ≤ z0 := by have := HZ0.out; omega
    have m1 : z0 ≠ g := by have := HZ0.out; omega
    have m2 : z1 ≠ g := by have := HZ1.out; omega
    have m3 : z0 ≠ z1 := by have := HZ1.out; have := HZ0.out; omega
    have m4 := Ne.symm m1
    have m5 := Ne.symm m2
    have m6 := Ne.symm m3
    go_wp2_with fail
    go_region_law ((refine step_append_1 (w := wc.drew) rfl _ _ 115 141 (.agg #[.int .u8 0, .int .i64 0, .int .u64 0, .int .u64 0, .bool false]) 40 rfl Try.underlying115 info_acc rfl (by decide) (by decide) hN.drew rfl #[.int .u8 99, .int .i64 at', .int .u64 x, .int .u64 y, .bool true] _ rfl rfl rfl (by simp [Value.oneCell']) (by omega) ?_; intro g' cap' w6 hO6 hf6 hr6; have hB6 := hf6.keep hB.drew hAc; have C6 := hB6.cells; have F6 := hB6.free; have hR6 := hf6.keep hR.drew hAc0; have hA6 := hf6.keep hA.drew hAc1; have CR6 := hR6.cells; have FR6 := hR6.free; have CA6 := hA6.cells))
    all_goals
      go_wp2_with fail
      obtain ⟨hR7, hM7, hf7⟩ := acc_end hSg hS0 hf hN hNlt hW hR hf6 hO6 hr6 hB6 hR6 (.int .u8 99) (.int .i64 at') (.int .u64 x) (.int .u64 y) (.bool true) hl
      have CR7 := hR7.cells
      simp at CR7
      exact bodyPost_ret (v := .tuple #[.agg #[.int .u8 99, .int .i64 at', .int .u64 x, .int .u64 y, .bool true], .int .i64 0]) (by simp [results, Try.results89, go_sem, CR7]) rfl ⟨rfl, hM7, hf7⟩

set_option maxHeartbeats 2000000 in
theorem access_swap_no (w : World) (h : MemAt w S g ws n) (at' : Int) (h0 : 0 ≤ at') (h1 : at' < (ws.length : Int)) (hn : n ≤ 1000000) (o y : Int) (hxo : ¬ ws.getD at'.toNat 0 = o) :
    Calls Try.prog 89 #[.pointer (some ⟨g, 0, none⟩), .int .i64 at', .iface 167 (.agg #[.int .u64 o, .int .u64 y])] w fun e w' =>
      e = .returned (.tuple #[.agg #[.int .u8 99, .int .i64 at', .int .u64 (ws.getD at'.toNat 0), .int .u64 (ws.getD at'.toNat 0), .bool false], .int .i64 0]) ∧ MemAt w' (Gr S w) g (ws.set at'.toNat (ws.getD at'.toNat 0)) (n + 1) ∧ Fr S w w' := by
  obtain ⟨hSg, vw, vn, ns, hB, hW, hN⟩ := h
  have hl : at'.toNat < ws.length := by omega
  obtain ⟨gw, cw, rfl, hSw, hgw, hcw, hcell, hfree⟩ := hW.form (by omega)
  obtain ⟨A, c, rfl, _, _⟩ := hN.slice
  have C := hB.cells
  have hlt := hB.lt
  have ck := hcell at'.toNat (by rw [us_len]; exact hl)
  rw [us_get _ _ _ hl] at ck
  obtain ⟨x, hx⟩ : ∃ x, x = ws.getD at'.toNat 0 := ⟨_, rfl⟩
  rw [← hx] at ck hxo ⊢
  have hxb : (x == o) = false := by simp [hxo]
  have HX := Lib.hid hx
  clear hx
  have k0 := C 0
  simp at k0
  have q0 : ∀ w, (Instr.typeAssert (.iface 167 (.agg #[.int .u64 o, .int .u64 y])) 20 165 true).run Try.prog w = .ok (.tuple #[.agg #[], .bool false]) w := fun w => by kernel_rfl
  have q1 : ∀ w, (Instr.typeAssert (.iface 167 (.agg #[.int .u64 o, .int .u64 y])) 20 145 true).run Try.prog w = .ok (.tuple #[.agg #[.int .u64 0], .bool false]) w := fun w => by kernel_rfl
  have q2 : ∀ w, (Instr.typeAssert (.iface 167 (.agg #[.int .u64 o, .int .u64 y])) 20 167 true).run Try.prog w = .ok (.tuple #[.agg #[.int .u64 o, .int .u64 y], .bool true]) w := fun w => by kernel_rfl
  clear hcell C
  go_enter Try.func89, Try.ntmps89
  go_wp2_with fail
  go_region_held3 (fun w' => w'.cell? ⟨g, 0, none⟩ = some (.slice (some ⟨gw, 0, none⟩) ws.length cw) ∧ w'.cell? ⟨gw, at'.toNat, none⟩ = some (.int .u64 x)) (first | (go_keep; done) | (go_split_ands; (repeat' apply And.intro) <;> first | assumption | (refine (Fr.cell (S := No) (by assumption) (by first | (simp; done) | (simp; omega) | omega) id).trans ?_; first | assumption | (simp; done) | (simp; assumption)) | (refine (Fr.frozen (S := No) (by assumption) (by first | (simp; done) | (simp; omega) | omega) id).trans ?_; first | assumption | (simp; done) | (simp; assumption)))) (fail)
  go_wp2_with fail
  go_region_held3 (fun w' => w'.cell? ⟨w.heap.size + 1 + 1, 0, none⟩ = some (.int .u64 o) ∧ w'.cell? ⟨w.heap.size + 1, 2, none⟩ = some (.int .u64 x)) (first | (simp [go_sem, World.cell?_alloc_past, World.cell?_alloc_at]; done) | (first | (go_keep; done) | (go_split_ands; (repeat' apply And.intro) <;> first | assumption | (refine (Fr.cell (S := No) (by assumption) (by first | (simp; done) | (simp; omega) | omega) id).trans ?_; first | assumption | (simp; done) | (simp; assumption)) | (refine (Fr.frozen (S := No) (by assumption) (by first | (simp; done) | (simp; omega) | omega) id).trans ?_; first | assumption | (simp; done) | (simp; assumption))))) (fail)
  go_wp2_with fail
  obtain ⟨w3, hw3⟩ : ∃ w3, w3 = (((w.alloc (.cells #[.int .u8 0, .int .i64 0, .int .u64 0, .int .u64 0, .bool false] 141)).alloc (.cells #[.int .u8 99, .int .i64 at', .int .u64 x, .int .u64 x, .bool false] 141)).alloc (.cells #[.int .u64 o, .int .u64 y] 167)).drew.drew := ⟨_, rfl⟩
  rw [← hw3]
  have H3 : AccMid w w3 S g gw cw A c n ns ws #[.int .u8 99, .int .i64 at', .int .u64 x, .int .u64 x, .bool false] := by
    subst hw3
    exact ⟨(((hB.alloc _).alloc _).alloc _).drew.drew, (((hW.alloc _).alloc _).alloc _).drew.drew, (((hN.alloc _).alloc _).alloc _).drew.drew, (((blk_new _ _ _).alloc _).alloc _).drew.drew, ((blk_at _ (by simp)).alloc _).drew.drew, by (repeat (first | exact Fr.refl _ _ | refine Fr.setCell ?_ (.inl (by first | (simp; done) | (simp; omega) | omega)) _ | refine Fr.alloc ?_ _ | refine Fr.drew ?_ | refine Fr.drewN ?_ _ | refine Fr.thenNo ?_ (by assumption)))⟩
  have hNlt := hN.lt
  clear hw3 hB hW hN ck k0 hfree
  obtain ⟨z1, hz1⟩ : ∃ z1, z1 = w.heap.size + 1 := ⟨_, rfl⟩
  obtain ⟨z0, hz0⟩ : ∃ z0, z0 = w.heap.size := ⟨_, rfl⟩
  have H3' := H3
  unfold AccMid at H3'
  rw [← hz1, ← hz0] at H3'
  rw [← hz1, ← hz0]
  obtain ⟨hB, hW, hN, hR, hA, hf⟩ := H3'
  have n1 : gw ≠ g := fun e => hW.ne hB (by decide) (by rw [e]; rfl)
  have n2 : gw ≠ z0 := by omega
  have n3 : gw ≠ z1 := by omega
  have HZ1 := Lib.hid hz1
  have HZ0 := Lib.hid hz0
  clear hz1 hz0
  have CB := hB.cells
  have CA := hA.cells
  have k0 := CB 0
  have k1 := CA 3
  simp at k0 k1
  obtain ⟨gw', cw', hvw, _, _, _, hcell, hfree⟩ := hW.form (by omega)
  cases hvw
  have ck := hcell at'.toNat (by rw [us_len]; exact hl)
  rw [us_get _ _ _ hl, ← HX.out] at ck
  have F0 := hfree at'.toNat
  clear CB CA hcell hfree
  go_cut [] (fun wx => AccMid w wx S g gw cw A c n ns (ws.set at'.toNat x) #[.int .u8 99, .int .i64 at', .int .u64 x, .int .u64 x, .bool false])
  case first =>
    go_region_held3 (fun w' => w'.cell? ⟨g, 0, none⟩ = some (.slice (some ⟨gw, 0, none⟩) ws.length cw) ∧ w'.cell? ⟨z1, 3, none⟩ = some (.int .u64 x)) (first | (go_keep; done) | (go_split_ands; (repeat' apply And.intro) <;> first | assumption | (refine (Fr.cell (S := No) (by assumption) (by first | (simp; done) | (simp; omega) | omega) id).trans ?_; first | assumption | (simp; done) | (simp; assumption)) | (refine (Fr.frozen (S := No) (by assumption) (by first | (simp; done) | (simp; omega) | omega) id).trans ?_; first | assumption | (simp; done) | (simp; assumption)))) (fail)
    go_wp2_with fail
    go_meet
    have W := hW.set at'.toNat (.int .u64 x) (by rw [us_len]; exact hl)
    rw [us_set] at W
    refine ⟨?_, ?_, (hN.apart hW (by decide) _).drew, ?_, ?_, (hf.setCell (.inr hSw) _).drew⟩
    · rw [List.length_set]; exact (hB.far (Ne.symm n1) _).drew
    · rw [List.length_set]; exact W.drew
    · rw [← HZ0.out]; exact (hR.far (Ne.symm n2) _).drew
    · rw [← HZ1.out]; exact (hA.far (Ne.symm n3) _).drew
  case rest =>
    clear hB hW hN hR hA hf H3 k0 k1 ck F0
    unfold AccMid at hcut
    rw [← HZ1.out, ← HZ0.out, List.length_set] at hcut
    obtain ⟨hB, hW, hN, hR, hA, hf⟩ := hcut
    have CB := hB.cells
    have CA := hA.cells
    have FB := hB.free
    have hAc : ¬ Value.ownBlock (.slice A n c) = some g := hN.ne hB (by decide)
    have hBl := hB.lt
    have hAc0 : ¬ Value.ownBlock (.slice A n c) = some z0 := fun e => by have := hNlt _ e; have := HZ0.out; omega
    have hAc1 : ¬ Value.ownBlock (.slice A n c) = some z1 := fun e => by have := hNlt _ e; have := HZ1.out; omega
    have hS0 : w.heap.size ≤ z0 := by have := HZ0.out; omega
    have m1 : z0 ≠ g := by have := HZ0.out; omega
    have m2 : z1 ≠ g := by have := HZ1.out; omega
    have m3 : z0 ≠ z1 := by have := HZ1.out; have := HZ0.out; omega
    have m4 := Ne.symm m1
    have m5 := Ne.symm m2
    have m6 := Ne.symm m3
    go_wp2_with fail
    go_region_law ((refine step_append_1 (w := wc.drew) rfl _ _ 115 141 (.agg #[.int .u8 0, .int .i64 0, .int .u64 0, .int .u64 0, .bool false]) 40 rfl Try.underlying115 info_acc rfl (by decide) (by decide) hN.drew rfl #[.int .u8 99, .int .i64 at', .int .u64 x, .int .u64 x, .bool false] _ rfl rfl rfl (by simp [Value.oneCell']) (by omega) ?_; intro g' cap' w6 hO6 hf6 hr6; have hB6 := hf6.keep hB.drew hAc; have C6 := hB6.cells; have F6 := hB6.free; have hR6 := hf6.keep hR.drew hAc0; have hA6 := hf6.keep hA.drew hAc1; have CR6 := hR6.cells; have FR6 := hR6.free; have CA6 := hA6.cells))
    all_goals
      go_wp2_with fail
      obtain ⟨hR7, hM7, hf7⟩ := acc_end hSg hS0 hf hN hNlt hW hR hf6 hO6 hr6 hB6 hR6 (.int .u8 99) (.int .i64 at') (.int .u64 x) (.int .u64 x) (.bool false) hl
      have CR7 := hR7.cells
      simp at CR7
      exact bodyPost_ret (v := .tuple #[.agg #[.int .u8 99, .int .i64 at', .int .u64 x, .int .u64 x, .bool false], .int .i64 0]) (by simp [results, Try.results89, go_sem, CR7]) rfl ⟨rfl, hM7, hf7⟩

end Go.Proofs.Ytfglpigoljclbaa.H
